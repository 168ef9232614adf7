/- Printed by a program of this session (over the kit's print): functions in plain form, and what their calls come to. -/
import Derived.Test.YtibkpacjijbblaaQBoxx0
import Derived.Test.YtibkpacjijbblaaQBoxx2
import Derived.Test.YtibkpacjijbblaaQBoxx3
import Derived.Test.YtibkpacjijbblaaQBoxx4
import Derived.Test.YtibkpacjijbblaaQBoxx5
namespace Go.Proofs.Ytibkpacjijbblaa.QBox
open Go.RowKit Go.Proofs.YtibkpacjijbblaaW.PrintWords Go.Proofs.YtibkpacjijbblaaW.PrintLast Go.Proofs.YtibkpacjijbblaaW.PrintMore
attribute [local go_sem] max2_int min2_int max_two min_two max_three min_three max_four min_four   -- for this text's walks alone
set_option linter.unusedVariables false
set_option linter.unusedSimpArgs false

/-! ### catafalquelaw11_BoxBack: function 4 -/
mutual
def catafalquelaw11_BoxBack.j0 : Nat → Int → Bool → Bool → Int → List Int → List (S71) → List Int → Option (Bool)
  | 0, _, _, _, _, _, _, _ => none
  | k + 1, x1, x5, x40, x292000, x292001, x292002, x292003 => if x40 = true then (some x5) else ((catafalquelaw11_made.f k x292000 x292001 x292002 x292003).bind fun bt295 => ((box_Send.f bt295.1 bt295.2.1 bt295.2.2.1 bt295.2.2.2 1000 x1).bind fun bt305 => (if bt305.2.2.2.2.1 = 0 then (catafalquelaw11_BoxBack.j1 k x1 x5 (!bt305.2.2.2.2.2) x292000 x292001 x292002 x292003 bt305.1 bt305.2.1 bt305.2.2.1 bt305.2.2.2.1) else (catafalquelaw11_BoxBack.j1 k x1 x5 true x292000 x292001 x292002 x292003 bt305.1 bt305.2.1 bt305.2.2.1 bt305.2.2.2.1))))
def catafalquelaw11_BoxBack.j1 : Nat → Int → Bool → Bool → Int → List Int → List (S71) → List Int → Int → List Int → List (S65) → List Int → Option (Bool)
  | 0, _, _, _, _, _, _, _, _, _, _, _ => none
  | k + 1, x1, x5, x55, x292000, x292001, x292002, x292003, x318000, x318001, x318002, x318003 => if x55 = true then (some false) else (catafalquelaw11_BoxBack.l0 k x1 x5 0 x292000 x292001 x292002 x292003 x318000 x318001 x318002 x318003)
def catafalquelaw11_BoxBack.l0 : Nat → Int → Bool → Int → Int → List Int → List (S71) → List Int → Int → List Int → List (S65) → List Int → Option (Bool)
  | 0, _, _, _, _, _, _, _, _, _, _, _ => none
  | k + 1, x1, x5, x9, x292000, x292001, x292002, x292003, x318000, x318001, x318002, x318003 => if x9 < (x292001.length : Int) then ((box_Recv.f k x318000 x318001 x318002 x318003 1000).bind fun bt318 => (if 0 ≤ x9 then (if bt318.2.2.2.2.1 = (rd x292001 x9) then (if bt318.2.2.2.2.2.1 = 0 then (if bt318.2.2.2.2.2.2 = true then (catafalquelaw11_BoxBack.l0 k x1 x5 (wrap64 (x9 + 1)) x292000 x292001 x292002 x292003 bt318.1 bt318.2.1 bt318.2.2.1 bt318.2.2.2.1) else (some false)) else (some false)) else (some false)) else (none))) else ((box_Recv.f k x318000 x318001 x318002 x318003 1000).bind fun bt333 => (if x5 = true then (if bt333.2.2.2.2.2.2 = true then (if bt333.2.2.2.2.1 = x1 then (if (bt333.2.1.length : Int) = 0 then (some (bt333.1 == x292000)) else (some false)) else (some false)) else (some false)) else (some false)))
end
def catafalquelaw11_BoxBack.f (k : Nat) (a0_0 : Int) (l0_1 : List Int) (l0_2 : List (S71)) (l0_3 : List Int) (a1 : Int) : Option (Bool) := (catafalquelaw11_shown.f k).bind fun t292 => ((catafalquelaw11_few.f a0_0 l0_1 l0_2 l0_3).bind fun t293 => (if t293 = true then ((catafalqueref11_May.f k a0_0 l0_1 l0_2 l0_3).bind fun t294 => (if t294 = true then (if (l0_3.length : Int) > 0 then (catafalquelaw11_BoxBack.j0 k a1 t292 true a0_0 l0_1 l0_2 l0_3) else (catafalquelaw11_BoxBack.j0 k a1 t292 (decide ((l0_1.length : Int) ≥ a0_0)) a0_0 l0_1 l0_2 l0_3)) else (catafalquelaw11_BoxBack.j0 k a1 t292 true a0_0 l0_1 l0_2 l0_3))) else (catafalquelaw11_BoxBack.j0 k a1 t292 true a0_0 l0_1 l0_2 l0_3)))
theorem catafalquelaw11_BoxBack.mono_l : ∀ k, (∀ y0 y1 y2 y3 y4 y5 y6, LeO (catafalquelaw11_BoxBack.j0 k y0 y1 y2 y3 y4 y5 y6) (catafalquelaw11_BoxBack.j0 (k + 1) y0 y1 y2 y3 y4 y5 y6)) ∧ (∀ y0 y1 y2 y3 y4 y5 y6 y7 y8 y9 y10, LeO (catafalquelaw11_BoxBack.j1 k y0 y1 y2 y3 y4 y5 y6 y7 y8 y9 y10) (catafalquelaw11_BoxBack.j1 (k + 1) y0 y1 y2 y3 y4 y5 y6 y7 y8 y9 y10)) ∧ (∀ y0 y1 y2 y3 y4 y5 y6 y7 y8 y9 y10, LeO (catafalquelaw11_BoxBack.l0 k y0 y1 y2 y3 y4 y5 y6 y7 y8 y9 y10) (catafalquelaw11_BoxBack.l0 (k + 1) y0 y1 y2 y3 y4 y5 y6 y7 y8 y9 y10))
  | 0 => ⟨fun _ _ _ _ _ _ _ r h => by simp [catafalquelaw11_BoxBack.j0] at h, fun _ _ _ _ _ _ _ _ _ _ _ r h => by simp [catafalquelaw11_BoxBack.j1] at h, fun _ _ _ _ _ _ _ _ _ _ _ r h => by simp [catafalquelaw11_BoxBack.l0] at h⟩
  | k + 1 => by
    obtain ⟨ih0, ih1, ih2⟩ := catafalquelaw11_BoxBack.mono_l k
    refine ⟨?_, ?_, ?_⟩
    · intro y0 y1 y2 y3 y4 y5 y6
      unfold catafalquelaw11_BoxBack.j0
      repeat' first
      | (with_reducible exact ih0 _ _ _ _ _ _ _)
      | (with_reducible exact ih1 _ _ _ _ _ _ _ _ _ _ _)
      | (with_reducible exact ih2 _ _ _ _ _ _ _ _ _ _ _)
      | (with_reducible exact box_Recv.mono _ _ _ _ _ _)
      | (with_reducible exact catafalquelaw11_made.mono _ _ _ _ _)
      | (with_reducible exact catafalquelaw11_shown.mono _)
      | (with_reducible exact catafalqueref11_May.mono _ _ _ _ _)
      | (with_reducible exact LeO.refl _)
      | (with_reducible exact LeO.none _)
      | (with_reducible refine LeO.ite ?_ ?_)
      | (with_reducible refine LeO.bind ?_ (fun _ => ?_))
      | exact ih0 _ _ _ _ _ _ _
      | exact ih1 _ _ _ _ _ _ _ _ _ _ _
      | exact ih2 _ _ _ _ _ _ _ _ _ _ _
      | exact box_Recv.mono _ _ _ _ _ _
      | exact catafalquelaw11_made.mono _ _ _ _ _
      | exact catafalquelaw11_shown.mono _
      | exact catafalqueref11_May.mono _ _ _ _ _
      | exact LeO.none _
      | refine LeO.ite ?_ ?_
      | refine LeO.bind ?_ (fun _ => ?_)
    · intro y0 y1 y2 y3 y4 y5 y6 y7 y8 y9 y10
      unfold catafalquelaw11_BoxBack.j1
      repeat' first
      | (with_reducible exact ih0 _ _ _ _ _ _ _)
      | (with_reducible exact ih1 _ _ _ _ _ _ _ _ _ _ _)
      | (with_reducible exact ih2 _ _ _ _ _ _ _ _ _ _ _)
      | (with_reducible exact box_Recv.mono _ _ _ _ _ _)
      | (with_reducible exact catafalquelaw11_made.mono _ _ _ _ _)
      | (with_reducible exact catafalquelaw11_shown.mono _)
      | (with_reducible exact catafalqueref11_May.mono _ _ _ _ _)
      | (with_reducible exact LeO.refl _)
      | (with_reducible exact LeO.none _)
      | (with_reducible refine LeO.ite ?_ ?_)
      | (with_reducible refine LeO.bind ?_ (fun _ => ?_))
      | exact ih0 _ _ _ _ _ _ _
      | exact ih1 _ _ _ _ _ _ _ _ _ _ _
      | exact ih2 _ _ _ _ _ _ _ _ _ _ _
      | exact box_Recv.mono _ _ _ _ _ _
      | exact catafalquelaw11_made.mono _ _ _ _ _
      | exact catafalquelaw11_shown.mono _
      | exact catafalqueref11_May.mono _ _ _ _ _
      | exact LeO.none _
      | refine LeO.ite ?_ ?_
      | refine LeO.bind ?_ (fun _ => ?_)
    · intro y0 y1 y2 y3 y4 y5 y6 y7 y8 y9 y10
      unfold catafalquelaw11_BoxBack.l0
      repeat' first
      | (with_reducible exact ih0 _ _ _ _ _ _ _)
      | (with_reducible exact ih1 _ _ _ _ _ _ _ _ _ _ _)
      | (with_reducible exact ih2 _ _ _ _ _ _ _ _ _ _ _)
      | (with_reducible exact box_Recv.mono _ _ _ _ _ _)
      | (with_reducible exact catafalquelaw11_made.mono _ _ _ _ _)
      | (with_reducible exact catafalquelaw11_shown.mono _)
      | (with_reducible exact catafalqueref11_May.mono _ _ _ _ _)
      | (with_reducible exact LeO.refl _)
      | (with_reducible exact LeO.none _)
      | (with_reducible refine LeO.ite ?_ ?_)
      | (with_reducible refine LeO.bind ?_ (fun _ => ?_))
      | exact ih0 _ _ _ _ _ _ _
      | exact ih1 _ _ _ _ _ _ _ _ _ _ _
      | exact ih2 _ _ _ _ _ _ _ _ _ _ _
      | exact box_Recv.mono _ _ _ _ _ _
      | exact catafalquelaw11_made.mono _ _ _ _ _
      | exact catafalquelaw11_shown.mono _
      | exact catafalqueref11_May.mono _ _ _ _ _
      | exact LeO.none _
      | refine LeO.ite ?_ ?_
      | refine LeO.bind ?_ (fun _ => ?_)
theorem catafalquelaw11_BoxBack.mono : ∀ a0 a1 a2 a3 a4 k, LeO (catafalquelaw11_BoxBack.f k a0 a1 a2 a3 a4) (catafalquelaw11_BoxBack.f (k + 1) a0 a1 a2 a3 a4) := by
  intro a0 a1 a2 a3 a4 k
  obtain ⟨ih0, ih1, ih2⟩ := catafalquelaw11_BoxBack.mono_l k
  unfold catafalquelaw11_BoxBack.f
  repeat' first
      | (with_reducible exact ih0 _ _ _ _ _ _ _)
      | (with_reducible exact ih1 _ _ _ _ _ _ _ _ _ _ _)
      | (with_reducible exact ih2 _ _ _ _ _ _ _ _ _ _ _)
      | (with_reducible exact box_Recv.mono _ _ _ _ _ _)
      | (with_reducible exact catafalquelaw11_made.mono _ _ _ _ _)
      | (with_reducible exact catafalquelaw11_shown.mono _)
      | (with_reducible exact catafalqueref11_May.mono _ _ _ _ _)
      | (with_reducible exact LeO.refl _)
      | (with_reducible exact LeO.none _)
      | (with_reducible refine LeO.ite ?_ ?_)
      | (with_reducible refine LeO.bind ?_ (fun _ => ?_))
      | exact ih0 _ _ _ _ _ _ _
      | exact ih1 _ _ _ _ _ _ _ _ _ _ _
      | exact ih2 _ _ _ _ _ _ _ _ _ _ _
      | exact box_Recv.mono _ _ _ _ _ _
      | exact catafalquelaw11_made.mono _ _ _ _ _
      | exact catafalquelaw11_shown.mono _
      | exact catafalqueref11_May.mono _ _ _ _ _
      | exact LeO.none _
      | refine LeO.ite ?_ ?_
      | refine LeO.bind ?_ (fun _ => ?_)
set_option maxHeartbeats 8000000 in
set_option maxRecDepth 100000 in
theorem catafalquelaw11_BoxBack.calls (k : Nat) (a0_0 : Int) (A0_1 : Option Addr) (c0_1 : Nat) (l0_1 : List Int) (A0_2 : Option Addr) (c0_2 : Nat) (l0_2 : List (S71)) (A0_3 : Option Addr) (c0_3 : Nat) (l0_3 : List Int) (a1 : Int) (r : Bool) (w : World) (hr0_1 : Kd.C (Kd.int .i64) w A0_1 l0_1.length l0_1) (hc0_1 : l0_1.length ≤ c0_1) (hr0_2 : Kd.C k71 w A0_2 l0_2.length l0_2) (hc0_2 : l0_2.length ≤ c0_2) (hr0_3 : Kd.C (Kd.int .i64) w A0_3 l0_3.length l0_3) (hc0_3 : l0_3.length ≤ c0_3) (h : catafalquelaw11_BoxBack.f k a0_0 l0_1 l0_2 l0_3 a1 = some r) :
    Calls Try.prog 4 #[.agg #[.int .i64 a0_0, .slice A0_1 l0_1.length c0_1, .slice A0_2 l0_2.length c0_2, .slice A0_3 l0_3.length c0_3], .int .i64 a1] w fun e w' => e = .returned (.bool r) ∧ Below w.heap.size w w' := by
  have hu35 := Try.underlying35
  have hu27 := Try.underlying27
  have HR0_1 := Aside0.mk hr0_1
  have HC0_1 := Aside0.mk hc0_1
  clear hr0_1 hc0_1
  have HR0_2 := Aside0.mk hr0_2
  have HC0_2 := Aside0.mk hc0_2
  clear hr0_2 hc0_2
  have HR0_3 := Aside0.mk hr0_3
  have HC0_3 := Aside0.mk hc0_3
  clear hr0_3 hc0_3
  have HB := Aside0.mk (Below.refl w.heap.size w)
  have H : ((catafalquelaw11_shown.f k).bind fun t292 => ((catafalquelaw11_few.f a0_0 l0_1 l0_2 l0_3).bind fun t293 => (if t293 = true then ((catafalqueref11_May.f k a0_0 l0_1 l0_2 l0_3).bind fun t294 => (if t294 = true then (if (l0_3.length : Int) > 0 then (catafalquelaw11_BoxBack.j0 k a1 t292 true a0_0 l0_1 l0_2 l0_3) else (catafalquelaw11_BoxBack.j0 k a1 t292 (decide ((l0_1.length : Int) ≥ a0_0)) a0_0 l0_1 l0_2 l0_3)) else (catafalquelaw11_BoxBack.j0 k a1 t292 true a0_0 l0_1 l0_2 l0_3))) else (catafalquelaw11_BoxBack.j0 k a1 t292 true a0_0 l0_1 l0_2 l0_3)))) = some r := h
  clear h
  replace H := Option.bind_eq_some_iff.mp H
  obtain ⟨t292, A30, H⟩ := H
  replace H : ((catafalquelaw11_few.f a0_0 l0_1 l0_2 l0_3).bind fun t293 => (if t293 = true then ((catafalqueref11_May.f k a0_0 l0_1 l0_2 l0_3).bind fun t294 => (if t294 = true then (if (l0_3.length : Int) > 0 then (catafalquelaw11_BoxBack.j0 k a1 t292 true a0_0 l0_1 l0_2 l0_3) else (catafalquelaw11_BoxBack.j0 k a1 t292 (decide ((l0_1.length : Int) ≥ a0_0)) a0_0 l0_1 l0_2 l0_3)) else (catafalquelaw11_BoxBack.j0 k a1 t292 true a0_0 l0_1 l0_2 l0_3))) else (catafalquelaw11_BoxBack.j0 k a1 t292 true a0_0 l0_1 l0_2 l0_3))) = some r := H
  have A3 := Aside0.mk A30
  clear A30
  have HC4 := Aside0.mk H
  clear H
  go_enter Try.func4, Try.ntmps4
  go_upto_region 2 with (first | ((with_reducible refine gate_dst (N := 2) rfl ?_); (try (refine gate_guard (by rfl) ?_; dsimp only)); refine box_event ?hg (N := 2) ?hd (cs := #[.int .i64 a0_0, .slice A0_1 l0_1.length c0_1, .slice A0_2 l0_2.length c0_2, .slice A0_3 l0_3.length c0_3]) (t := 35) ?hr ?_; (case hd => rfl); (case hg => rfl); (case hr => first | (go_simp; done) | (go_simp; rfl)); intro gb291 hg w5 hbox hb; have n0_ := Aside0.mk (below_step (by repeat (first | (with_reducible first | exact HB.out | apply below_alloc | apply pw_below_drewN | apply below_drew1) | exact HB.out)) hb); have n1_ := Aside0.mk (hbox); have n2_ := Aside0.mk ((by rw [hg]; exact (below_size (by repeat (first | (with_reducible first | exact HB.out | apply below_alloc | apply pw_below_drewN | apply below_drew1) | exact HB.out))) : w.heap.size ≤ gb291)); have n3_ := Aside0.mk ((by rw [hg]; exact (below_size (by repeat (first | (with_reducible first | exact HB.out | apply below_alloc | apply pw_below_drewN | apply below_drew1) | exact HB.out))) : w.heap.size ≤ gb291)); clear HB; have HB := n0_; have BK291 := n1_; have GW291 := n2_; have GE291 := n3_; clear n0_ n1_ n2_ n3_; clear hb hbox hg) | ((with_reducible refine gate_callee (f := 14) rfl ?_); refine goesL_ (some 18) rfl rfl Try.func14 (by kernel_rfl) rfl #[] rfl (by (try simp only [List.map_toArray, List.map_cons, List.map_nil]); first | done | rfl | (simp only [List.length_drop, List.length_take]; rfl)) ?_; (with_reducible refine (catafalquelaw11_shown.calls k  t292 _ A3.out).mono ?_); rintro e w6 ⟨rfl, hb⟩; refine ⟨_, rfl, ?_⟩; have n0_ := Aside0.mk (blk_below (g := gb291) (o := .cells #[.int .i64 a0_0, .slice A0_1 l0_1.length c0_1, .slice A0_2 l0_2.length c0_2, .slice A0_3 l0_3.length c0_3] 35 (0, 0)) (by (with_reducible repeat (first | refine blk_drewN ?_ _ | refine blk_drew ?_ | refine blk_alloc ?_ _)); exact BK291.out) hb); have n1_ := Aside0.mk (below_step (by repeat (first | (with_reducible first | exact HB.out | apply below_alloc | apply pw_below_drewN | apply below_drew1 | refine below_set ?_ GE291.out) | exact HB.out)) hb); clear BK291; clear HB; have BK291 := n0_; have HB := n1_; clear n0_ n1_; (try clear hb); (try clear hb2); (try clear hk); (try clear hi)))
  (try simp only [Act.put, List.setIfInBounds_toArray, List.set_cons_zero, List.set_cons_succ])
  go_cut [40] (fun v40 wc => ∃ (kq : Nat) (x40_3 : Bool), v40 = .bool x40_3 ∧ Aside0 (catafalquelaw11_BoxBack.j0 kq a1 t292 x40_3 a0_0 l0_1 l0_2 l0_3 = some r) ∧ Aside0 (kq ≤ k) ∧ Aside0 (wc.heap[gb291]? = some (.cells #[.int .i64 a0_0, (.slice A0_1 l0_1.length c0_1), (.slice A0_2 l0_2.length c0_2), (.slice A0_3 l0_3.length c0_3)] 35 (0, 0))) ∧ Aside0 (Below w.heap.size w wc))
  case first =>
    have H := HC4.out
    clear HC4
    replace H := Option.bind_eq_some_iff.mp H
    obtain ⟨t293, A70, H⟩ := H
    replace H : (if t293 = true then ((catafalqueref11_May.f k a0_0 l0_1 l0_2 l0_3).bind fun t294 => (if t294 = true then (if (l0_3.length : Int) > 0 then (catafalquelaw11_BoxBack.j0 k a1 t292 true a0_0 l0_1 l0_2 l0_3) else (catafalquelaw11_BoxBack.j0 k a1 t292 (decide ((l0_1.length : Int) ≥ a0_0)) a0_0 l0_1 l0_2 l0_3)) else (catafalquelaw11_BoxBack.j0 k a1 t292 true a0_0 l0_1 l0_2 l0_3))) else (catafalquelaw11_BoxBack.j0 k a1 t292 true a0_0 l0_1 l0_2 l0_3)) = some r := H
    have A7 := Aside0.mk A70
    clear A70
    by_cases c8 : t293 = true
    · subst c8
      have H1 : ((catafalqueref11_May.f k a0_0 l0_1 l0_2 l0_3).bind fun t294 => (if t294 = true then (if (l0_3.length : Int) > 0 then (catafalquelaw11_BoxBack.j0 k a1 t292 true a0_0 l0_1 l0_2 l0_3) else (catafalquelaw11_BoxBack.j0 k a1 t292 (decide ((l0_1.length : Int) ≥ a0_0)) a0_0 l0_1 l0_2 l0_3)) else (catafalquelaw11_BoxBack.j0 k a1 t292 true a0_0 l0_1 l0_2 l0_3))) = some r := by rw [if_pos rfl] at H; exact H
      clear H
      have H := H1
      clear H1
      replace H := Option.bind_eq_some_iff.mp H
      obtain ⟨t294, A90, H⟩ := H
      replace H : (if t294 = true then (if (l0_3.length : Int) > 0 then (catafalquelaw11_BoxBack.j0 k a1 t292 true a0_0 l0_1 l0_2 l0_3) else (catafalquelaw11_BoxBack.j0 k a1 t292 (decide ((l0_1.length : Int) ≥ a0_0)) a0_0 l0_1 l0_2 l0_3)) else (catafalquelaw11_BoxBack.j0 k a1 t292 true a0_0 l0_1 l0_2 l0_3)) = some r := H
      have A9 := Aside0.mk A90
      clear A90
      by_cases c10 : t294 = true
      · subst c10
        have H1 : (if (l0_3.length : Int) > 0 then (catafalquelaw11_BoxBack.j0 k a1 t292 true a0_0 l0_1 l0_2 l0_3) else (catafalquelaw11_BoxBack.j0 k a1 t292 (decide ((l0_1.length : Int) ≥ a0_0)) a0_0 l0_1 l0_2 l0_3)) = some r := by rw [if_pos rfl] at H; exact H
        clear H
        have H := H1
        clear H1
        by_cases c11 : (l0_3.length : Int) > 0
        · rw [if_pos c11] at H
          have c11b0 : decide (0 < (l0_3.length : Int)) = true := decide_eq_true c11
          have c11b1 : decide (0 < l0_3.length) = true := decide_eq_true (by omega)
          clear c11
          (first | rw [c11b0] | (simp only [i64_w, i32_w]; rw [c11b0]) | skip)
          have H' := Aside0.mk H
          clear H
          have hcz12_0 : w6.cell? ⟨gb291, 0, none⟩ = some (.int .i64 a0_0) := (blk_cell BK291.out 0).trans rfl
          have hcz12_1 : w6.cell? ⟨gb291, 1, none⟩ = some (.slice A0_1 l0_1.length c0_1) := (blk_cell BK291.out 1).trans rfl
          have hcz12_2 : w6.cell? ⟨gb291, 2, none⟩ = some (.slice A0_2 l0_2.length c0_2) := (blk_cell BK291.out 2).trans rfl
          have hcz12_3 : w6.cell? ⟨gb291, 3, none⟩ = some (.slice A0_3 l0_3.length c0_3) := (blk_cell BK291.out 3).trans rfl
          have hfz12_0 := blk_frozen BK291.out 0
          have hfz12_1 := blk_frozen BK291.out 1
          have hfz12_2 := blk_frozen BK291.out 2
          have hfz12_3 := blk_frozen BK291.out 3
          go_wp2_with (first | ((with_reducible refine gate_callee (f := 17) rfl ?_); refine goesL_ (some 20) rfl rfl Try.func17 (by kernel_rfl) rfl #[.agg #[.int .i64 a0_0, .slice A0_1 l0_1.length c0_1, .slice A0_2 l0_2.length c0_2, .slice A0_3 l0_3.length c0_3]] rfl (by (try simp only [List.map_toArray, List.map_cons, List.map_nil]); first | done | rfl | (simp only [List.length_drop, List.length_take]; rfl)) ?_; (with_reducible refine (catafalquelaw11_few.calls a0_0 _ _ l0_1 _ _ l0_2 _ _ l0_3 true _ ?side1 ?side2 ?side3 ?side4 ?side5 ?side6 A7.out).mono ?_); (case side1 => repeat (first | exact (Kd.C_below HR0_1.out HB.out) | (with_reducible refine Kd.C_alloc ?_ _) | (with_reducible refine Kd.C_drewN ?_ _) | (with_reducible refine Kd.C_drew ?_))); (case side2 => exact HC0_1.out); (case side3 => repeat (first | exact (Kd.C_below HR0_2.out HB.out) | (with_reducible refine Kd.C_alloc ?_ _) | (with_reducible refine Kd.C_drewN ?_ _) | (with_reducible refine Kd.C_drew ?_))); (case side4 => exact HC0_2.out); (case side5 => repeat (first | exact (Kd.C_below HR0_3.out HB.out) | (with_reducible refine Kd.C_alloc ?_ _) | (with_reducible refine Kd.C_drewN ?_ _) | (with_reducible refine Kd.C_drew ?_))); (case side6 => exact HC0_3.out); rintro e w13 ⟨rfl, hb⟩; refine ⟨_, rfl, ?_⟩; have n0_ := Aside0.mk (blk_below (g := gb291) (o := .cells #[.int .i64 a0_0, .slice A0_1 l0_1.length c0_1, .slice A0_2 l0_2.length c0_2, .slice A0_3 l0_3.length c0_3] 35 (0, 0)) (by (with_reducible repeat (first | refine blk_drewN ?_ _ | refine blk_drew ?_ | refine blk_alloc ?_ _)); exact BK291.out) hb); have n1_ := Aside0.mk (below_step (by repeat (first | (with_reducible first | exact HB.out | apply below_alloc | apply pw_below_drewN | apply below_drew1 | refine below_set ?_ GE291.out) | exact HB.out)) hb); clear BK291; clear HB; have BK291 := n0_; have HB := n1_; clear n0_ n1_; (try clear hb); (try clear hb2); (try clear hk); (try clear hi); have hcz14_0 : w13.cell? ⟨gb291, 0, none⟩ = some (.int .i64 a0_0) := (blk_cell BK291.out 0).trans rfl; have hcz14_1 : w13.cell? ⟨gb291, 1, none⟩ = some (.slice A0_1 l0_1.length c0_1) := (blk_cell BK291.out 1).trans rfl; have hcz14_2 : w13.cell? ⟨gb291, 2, none⟩ = some (.slice A0_2 l0_2.length c0_2) := (blk_cell BK291.out 2).trans rfl; have hcz14_3 : w13.cell? ⟨gb291, 3, none⟩ = some (.slice A0_3 l0_3.length c0_3) := (blk_cell BK291.out 3).trans rfl; have hfz14_0 := blk_frozen BK291.out 0; have hfz14_1 := blk_frozen BK291.out 1; have hfz14_2 := blk_frozen BK291.out 2; have hfz14_3 := blk_frozen BK291.out 3) | (go_at_call 18; (with_reducible refine (catafalqueref11_May.calls k a0_0 _ _ l0_1 _ _ l0_2 _ _ l0_3 true _ ?side1 ?side2 ?side3 ?side4 ?side5 ?side6 A9.out).mono ?_); (case side1 => repeat (first | exact (Kd.C_below HR0_1.out HB.out) | (with_reducible refine Kd.C_alloc ?_ _) | (with_reducible refine Kd.C_drewN ?_ _) | (with_reducible refine Kd.C_drew ?_))); (case side2 => exact HC0_1.out); (case side3 => repeat (first | exact (Kd.C_below HR0_2.out HB.out) | (with_reducible refine Kd.C_alloc ?_ _) | (with_reducible refine Kd.C_drewN ?_ _) | (with_reducible refine Kd.C_drew ?_))); (case side4 => exact HC0_2.out); (case side5 => repeat (first | exact (Kd.C_below HR0_3.out HB.out) | (with_reducible refine Kd.C_alloc ?_ _) | (with_reducible refine Kd.C_drewN ?_ _) | (with_reducible refine Kd.C_drew ?_))); (case side6 => exact HC0_3.out); rintro e w15 ⟨rfl, hb⟩; have n0_ := Aside0.mk (blk_below (g := gb291) (o := .cells #[.int .i64 a0_0, .slice A0_1 l0_1.length c0_1, .slice A0_2 l0_2.length c0_2, .slice A0_3 l0_3.length c0_3] 35 (0, 0)) (by (with_reducible repeat (first | refine blk_drewN ?_ _ | refine blk_drew ?_ | refine blk_alloc ?_ _)); exact BK291.out) hb); have n1_ := Aside0.mk (below_step (by repeat (first | (with_reducible first | exact HB.out | apply below_alloc | apply pw_below_drewN | apply below_drew1 | refine below_set ?_ GE291.out) | exact HB.out)) hb); clear BK291; clear HB; have BK291 := n0_; have HB := n1_; clear n0_ n1_; (try clear hb); (try clear hb2); (try clear hk); (try clear hi); have hcz16_0 : w15.cell? ⟨gb291, 0, none⟩ = some (.int .i64 a0_0) := (blk_cell BK291.out 0).trans rfl; have hcz16_1 : w15.cell? ⟨gb291, 1, none⟩ = some (.slice A0_1 l0_1.length c0_1) := (blk_cell BK291.out 1).trans rfl; have hcz16_2 : w15.cell? ⟨gb291, 2, none⟩ = some (.slice A0_2 l0_2.length c0_2) := (blk_cell BK291.out 2).trans rfl; have hcz16_3 : w15.cell? ⟨gb291, 3, none⟩ = some (.slice A0_3 l0_3.length c0_3) := (blk_cell BK291.out 3).trans rfl; have hfz16_0 := blk_frozen BK291.out 0; have hfz16_1 := blk_frozen BK291.out 1; have hfz16_2 := blk_frozen BK291.out 2; have hfz16_3 := blk_frozen BK291.out 3))
          go_meet
          case rel => exact ⟨_, (true), (by first | rfl | (simp; done) | (simp [*]; done)), H', ⟨by first | omega | exact Nat.le_refl _⟩, ⟨by (with_reducible repeat (first | refine blk_drewN ?_ _ | refine blk_drew ?_ | refine blk_alloc ?_ _)); exact BK291.out⟩, ⟨by repeat (first | (with_reducible first | exact HB.out | apply below_alloc | apply pw_below_drewN | apply below_drew1 | refine below_set ?_ GE291.out) | exact HB.out)⟩⟩
        · rw [if_neg c11] at H
          have c11b0 : decide (0 < (l0_3.length : Int)) = false := decide_eq_false c11
          have c11b1 : decide (0 < l0_3.length) = false := decide_eq_false (by omega)
          clear c11
          (first | rw [c11b0] | (simp only [i64_w, i32_w]; rw [c11b0]) | skip)
          have H' := Aside0.mk H
          clear H
          have hcz17_0 : w6.cell? ⟨gb291, 0, none⟩ = some (.int .i64 a0_0) := (blk_cell BK291.out 0).trans rfl
          have hcz17_1 : w6.cell? ⟨gb291, 1, none⟩ = some (.slice A0_1 l0_1.length c0_1) := (blk_cell BK291.out 1).trans rfl
          have hcz17_2 : w6.cell? ⟨gb291, 2, none⟩ = some (.slice A0_2 l0_2.length c0_2) := (blk_cell BK291.out 2).trans rfl
          have hcz17_3 : w6.cell? ⟨gb291, 3, none⟩ = some (.slice A0_3 l0_3.length c0_3) := (blk_cell BK291.out 3).trans rfl
          have hfz17_0 := blk_frozen BK291.out 0
          have hfz17_1 := blk_frozen BK291.out 1
          have hfz17_2 := blk_frozen BK291.out 2
          have hfz17_3 := blk_frozen BK291.out 3
          go_wp2_with (first | ((with_reducible refine gate_callee (f := 17) rfl ?_); refine goesL_ (some 20) rfl rfl Try.func17 (by kernel_rfl) rfl #[.agg #[.int .i64 a0_0, .slice A0_1 l0_1.length c0_1, .slice A0_2 l0_2.length c0_2, .slice A0_3 l0_3.length c0_3]] rfl (by (try simp only [List.map_toArray, List.map_cons, List.map_nil]); first | done | rfl | (simp only [List.length_drop, List.length_take]; rfl)) ?_; (with_reducible refine (catafalquelaw11_few.calls a0_0 _ _ l0_1 _ _ l0_2 _ _ l0_3 true _ ?side1 ?side2 ?side3 ?side4 ?side5 ?side6 A7.out).mono ?_); (case side1 => repeat (first | exact (Kd.C_below HR0_1.out HB.out) | (with_reducible refine Kd.C_alloc ?_ _) | (with_reducible refine Kd.C_drewN ?_ _) | (with_reducible refine Kd.C_drew ?_))); (case side2 => exact HC0_1.out); (case side3 => repeat (first | exact (Kd.C_below HR0_2.out HB.out) | (with_reducible refine Kd.C_alloc ?_ _) | (with_reducible refine Kd.C_drewN ?_ _) | (with_reducible refine Kd.C_drew ?_))); (case side4 => exact HC0_2.out); (case side5 => repeat (first | exact (Kd.C_below HR0_3.out HB.out) | (with_reducible refine Kd.C_alloc ?_ _) | (with_reducible refine Kd.C_drewN ?_ _) | (with_reducible refine Kd.C_drew ?_))); (case side6 => exact HC0_3.out); rintro e w18 ⟨rfl, hb⟩; refine ⟨_, rfl, ?_⟩; have n0_ := Aside0.mk (blk_below (g := gb291) (o := .cells #[.int .i64 a0_0, .slice A0_1 l0_1.length c0_1, .slice A0_2 l0_2.length c0_2, .slice A0_3 l0_3.length c0_3] 35 (0, 0)) (by (with_reducible repeat (first | refine blk_drewN ?_ _ | refine blk_drew ?_ | refine blk_alloc ?_ _)); exact BK291.out) hb); have n1_ := Aside0.mk (below_step (by repeat (first | (with_reducible first | exact HB.out | apply below_alloc | apply pw_below_drewN | apply below_drew1 | refine below_set ?_ GE291.out) | exact HB.out)) hb); clear BK291; clear HB; have BK291 := n0_; have HB := n1_; clear n0_ n1_; (try clear hb); (try clear hb2); (try clear hk); (try clear hi); have hcz19_0 : w18.cell? ⟨gb291, 0, none⟩ = some (.int .i64 a0_0) := (blk_cell BK291.out 0).trans rfl; have hcz19_1 : w18.cell? ⟨gb291, 1, none⟩ = some (.slice A0_1 l0_1.length c0_1) := (blk_cell BK291.out 1).trans rfl; have hcz19_2 : w18.cell? ⟨gb291, 2, none⟩ = some (.slice A0_2 l0_2.length c0_2) := (blk_cell BK291.out 2).trans rfl; have hcz19_3 : w18.cell? ⟨gb291, 3, none⟩ = some (.slice A0_3 l0_3.length c0_3) := (blk_cell BK291.out 3).trans rfl; have hfz19_0 := blk_frozen BK291.out 0; have hfz19_1 := blk_frozen BK291.out 1; have hfz19_2 := blk_frozen BK291.out 2; have hfz19_3 := blk_frozen BK291.out 3) | (go_at_call 18; (with_reducible refine (catafalqueref11_May.calls k a0_0 _ _ l0_1 _ _ l0_2 _ _ l0_3 true _ ?side1 ?side2 ?side3 ?side4 ?side5 ?side6 A9.out).mono ?_); (case side1 => repeat (first | exact (Kd.C_below HR0_1.out HB.out) | (with_reducible refine Kd.C_alloc ?_ _) | (with_reducible refine Kd.C_drewN ?_ _) | (with_reducible refine Kd.C_drew ?_))); (case side2 => exact HC0_1.out); (case side3 => repeat (first | exact (Kd.C_below HR0_2.out HB.out) | (with_reducible refine Kd.C_alloc ?_ _) | (with_reducible refine Kd.C_drewN ?_ _) | (with_reducible refine Kd.C_drew ?_))); (case side4 => exact HC0_2.out); (case side5 => repeat (first | exact (Kd.C_below HR0_3.out HB.out) | (with_reducible refine Kd.C_alloc ?_ _) | (with_reducible refine Kd.C_drewN ?_ _) | (with_reducible refine Kd.C_drew ?_))); (case side6 => exact HC0_3.out); rintro e w20 ⟨rfl, hb⟩; have n0_ := Aside0.mk (blk_below (g := gb291) (o := .cells #[.int .i64 a0_0, .slice A0_1 l0_1.length c0_1, .slice A0_2 l0_2.length c0_2, .slice A0_3 l0_3.length c0_3] 35 (0, 0)) (by (with_reducible repeat (first | refine blk_drewN ?_ _ | refine blk_drew ?_ | refine blk_alloc ?_ _)); exact BK291.out) hb); have n1_ := Aside0.mk (below_step (by repeat (first | (with_reducible first | exact HB.out | apply below_alloc | apply pw_below_drewN | apply below_drew1 | refine below_set ?_ GE291.out) | exact HB.out)) hb); clear BK291; clear HB; have BK291 := n0_; have HB := n1_; clear n0_ n1_; (try clear hb); (try clear hb2); (try clear hk); (try clear hi); have hcz21_0 : w20.cell? ⟨gb291, 0, none⟩ = some (.int .i64 a0_0) := (blk_cell BK291.out 0).trans rfl; have hcz21_1 : w20.cell? ⟨gb291, 1, none⟩ = some (.slice A0_1 l0_1.length c0_1) := (blk_cell BK291.out 1).trans rfl; have hcz21_2 : w20.cell? ⟨gb291, 2, none⟩ = some (.slice A0_2 l0_2.length c0_2) := (blk_cell BK291.out 2).trans rfl; have hcz21_3 : w20.cell? ⟨gb291, 3, none⟩ = some (.slice A0_3 l0_3.length c0_3) := (blk_cell BK291.out 3).trans rfl; have hfz21_0 := blk_frozen BK291.out 0; have hfz21_1 := blk_frozen BK291.out 1; have hfz21_2 := blk_frozen BK291.out 2; have hfz21_3 := blk_frozen BK291.out 3))
          go_meet
          case rel => exact ⟨_, (decide ((l0_1.length : Int) ≥ a0_0)), (by first | rfl | (simp; done) | (simp [*]; done)), H', ⟨by first | omega | exact Nat.le_refl _⟩, ⟨by (with_reducible repeat (first | refine blk_drewN ?_ _ | refine blk_drew ?_ | refine blk_alloc ?_ _)); exact BK291.out⟩, ⟨by repeat (first | (with_reducible first | exact HB.out | apply below_alloc | apply pw_below_drewN | apply below_drew1 | refine below_set ?_ GE291.out) | exact HB.out)⟩⟩
      · replace c10 := Bool.eq_false_iff.mpr c10
        subst c10
        have H1 : (catafalquelaw11_BoxBack.j0 k a1 t292 true a0_0 l0_1 l0_2 l0_3) = some r := by rw [if_neg (show ¬ (false = true) by decide)] at H; exact H
        clear H
        have H := H1
        clear H1
        have H' := Aside0.mk H
        clear H
        have hcz22_0 : w6.cell? ⟨gb291, 0, none⟩ = some (.int .i64 a0_0) := (blk_cell BK291.out 0).trans rfl
        have hcz22_1 : w6.cell? ⟨gb291, 1, none⟩ = some (.slice A0_1 l0_1.length c0_1) := (blk_cell BK291.out 1).trans rfl
        have hcz22_2 : w6.cell? ⟨gb291, 2, none⟩ = some (.slice A0_2 l0_2.length c0_2) := (blk_cell BK291.out 2).trans rfl
        have hcz22_3 : w6.cell? ⟨gb291, 3, none⟩ = some (.slice A0_3 l0_3.length c0_3) := (blk_cell BK291.out 3).trans rfl
        have hfz22_0 := blk_frozen BK291.out 0
        have hfz22_1 := blk_frozen BK291.out 1
        have hfz22_2 := blk_frozen BK291.out 2
        have hfz22_3 := blk_frozen BK291.out 3
        go_wp2_with (first | ((with_reducible refine gate_callee (f := 17) rfl ?_); refine goesL_ (some 20) rfl rfl Try.func17 (by kernel_rfl) rfl #[.agg #[.int .i64 a0_0, .slice A0_1 l0_1.length c0_1, .slice A0_2 l0_2.length c0_2, .slice A0_3 l0_3.length c0_3]] rfl (by (try simp only [List.map_toArray, List.map_cons, List.map_nil]); first | done | rfl | (simp only [List.length_drop, List.length_take]; rfl)) ?_; (with_reducible refine (catafalquelaw11_few.calls a0_0 _ _ l0_1 _ _ l0_2 _ _ l0_3 true _ ?side1 ?side2 ?side3 ?side4 ?side5 ?side6 A7.out).mono ?_); (case side1 => repeat (first | exact (Kd.C_below HR0_1.out HB.out) | (with_reducible refine Kd.C_alloc ?_ _) | (with_reducible refine Kd.C_drewN ?_ _) | (with_reducible refine Kd.C_drew ?_))); (case side2 => exact HC0_1.out); (case side3 => repeat (first | exact (Kd.C_below HR0_2.out HB.out) | (with_reducible refine Kd.C_alloc ?_ _) | (with_reducible refine Kd.C_drewN ?_ _) | (with_reducible refine Kd.C_drew ?_))); (case side4 => exact HC0_2.out); (case side5 => repeat (first | exact (Kd.C_below HR0_3.out HB.out) | (with_reducible refine Kd.C_alloc ?_ _) | (with_reducible refine Kd.C_drewN ?_ _) | (with_reducible refine Kd.C_drew ?_))); (case side6 => exact HC0_3.out); rintro e w23 ⟨rfl, hb⟩; refine ⟨_, rfl, ?_⟩; have n0_ := Aside0.mk (blk_below (g := gb291) (o := .cells #[.int .i64 a0_0, .slice A0_1 l0_1.length c0_1, .slice A0_2 l0_2.length c0_2, .slice A0_3 l0_3.length c0_3] 35 (0, 0)) (by (with_reducible repeat (first | refine blk_drewN ?_ _ | refine blk_drew ?_ | refine blk_alloc ?_ _)); exact BK291.out) hb); have n1_ := Aside0.mk (below_step (by repeat (first | (with_reducible first | exact HB.out | apply below_alloc | apply pw_below_drewN | apply below_drew1 | refine below_set ?_ GE291.out) | exact HB.out)) hb); clear BK291; clear HB; have BK291 := n0_; have HB := n1_; clear n0_ n1_; (try clear hb); (try clear hb2); (try clear hk); (try clear hi); have hcz24_0 : w23.cell? ⟨gb291, 0, none⟩ = some (.int .i64 a0_0) := (blk_cell BK291.out 0).trans rfl; have hcz24_1 : w23.cell? ⟨gb291, 1, none⟩ = some (.slice A0_1 l0_1.length c0_1) := (blk_cell BK291.out 1).trans rfl; have hcz24_2 : w23.cell? ⟨gb291, 2, none⟩ = some (.slice A0_2 l0_2.length c0_2) := (blk_cell BK291.out 2).trans rfl; have hcz24_3 : w23.cell? ⟨gb291, 3, none⟩ = some (.slice A0_3 l0_3.length c0_3) := (blk_cell BK291.out 3).trans rfl; have hfz24_0 := blk_frozen BK291.out 0; have hfz24_1 := blk_frozen BK291.out 1; have hfz24_2 := blk_frozen BK291.out 2; have hfz24_3 := blk_frozen BK291.out 3) | (go_at_call 18; (with_reducible refine (catafalqueref11_May.calls k a0_0 _ _ l0_1 _ _ l0_2 _ _ l0_3 false _ ?side1 ?side2 ?side3 ?side4 ?side5 ?side6 A9.out).mono ?_); (case side1 => repeat (first | exact (Kd.C_below HR0_1.out HB.out) | (with_reducible refine Kd.C_alloc ?_ _) | (with_reducible refine Kd.C_drewN ?_ _) | (with_reducible refine Kd.C_drew ?_))); (case side2 => exact HC0_1.out); (case side3 => repeat (first | exact (Kd.C_below HR0_2.out HB.out) | (with_reducible refine Kd.C_alloc ?_ _) | (with_reducible refine Kd.C_drewN ?_ _) | (with_reducible refine Kd.C_drew ?_))); (case side4 => exact HC0_2.out); (case side5 => repeat (first | exact (Kd.C_below HR0_3.out HB.out) | (with_reducible refine Kd.C_alloc ?_ _) | (with_reducible refine Kd.C_drewN ?_ _) | (with_reducible refine Kd.C_drew ?_))); (case side6 => exact HC0_3.out); rintro e w25 ⟨rfl, hb⟩; have n0_ := Aside0.mk (blk_below (g := gb291) (o := .cells #[.int .i64 a0_0, .slice A0_1 l0_1.length c0_1, .slice A0_2 l0_2.length c0_2, .slice A0_3 l0_3.length c0_3] 35 (0, 0)) (by (with_reducible repeat (first | refine blk_drewN ?_ _ | refine blk_drew ?_ | refine blk_alloc ?_ _)); exact BK291.out) hb); have n1_ := Aside0.mk (below_step (by repeat (first | (with_reducible first | exact HB.out | apply below_alloc | apply pw_below_drewN | apply below_drew1 | refine below_set ?_ GE291.out) | exact HB.out)) hb); clear BK291; clear HB; have BK291 := n0_; have HB := n1_; clear n0_ n1_; (try clear hb); (try clear hb2); (try clear hk); (try clear hi)))
        go_meet
        case rel => exact ⟨_, (true), (by first | rfl | (simp; done) | (simp [*]; done)), H', ⟨by first | omega | exact Nat.le_refl _⟩, ⟨by (with_reducible repeat (first | refine blk_drewN ?_ _ | refine blk_drew ?_ | refine blk_alloc ?_ _)); exact BK291.out⟩, ⟨by repeat (first | (with_reducible first | exact HB.out | apply below_alloc | apply pw_below_drewN | apply below_drew1 | refine below_set ?_ GE291.out) | exact HB.out)⟩⟩
    · replace c8 := Bool.eq_false_iff.mpr c8
      subst c8
      have H1 : (catafalquelaw11_BoxBack.j0 k a1 t292 true a0_0 l0_1 l0_2 l0_3) = some r := by rw [if_neg (show ¬ (false = true) by decide)] at H; exact H
      clear H
      have H := H1
      clear H1
      have H' := Aside0.mk H
      clear H
      have hcz26_0 : w6.cell? ⟨gb291, 0, none⟩ = some (.int .i64 a0_0) := (blk_cell BK291.out 0).trans rfl
      have hcz26_1 : w6.cell? ⟨gb291, 1, none⟩ = some (.slice A0_1 l0_1.length c0_1) := (blk_cell BK291.out 1).trans rfl
      have hcz26_2 : w6.cell? ⟨gb291, 2, none⟩ = some (.slice A0_2 l0_2.length c0_2) := (blk_cell BK291.out 2).trans rfl
      have hcz26_3 : w6.cell? ⟨gb291, 3, none⟩ = some (.slice A0_3 l0_3.length c0_3) := (blk_cell BK291.out 3).trans rfl
      have hfz26_0 := blk_frozen BK291.out 0
      have hfz26_1 := blk_frozen BK291.out 1
      have hfz26_2 := blk_frozen BK291.out 2
      have hfz26_3 := blk_frozen BK291.out 3
      go_wp2_with (first | ((with_reducible refine gate_callee (f := 17) rfl ?_); refine goesL_ (some 20) rfl rfl Try.func17 (by kernel_rfl) rfl #[.agg #[.int .i64 a0_0, .slice A0_1 l0_1.length c0_1, .slice A0_2 l0_2.length c0_2, .slice A0_3 l0_3.length c0_3]] rfl (by (try simp only [List.map_toArray, List.map_cons, List.map_nil]); first | done | rfl | (simp only [List.length_drop, List.length_take]; rfl)) ?_; (with_reducible refine (catafalquelaw11_few.calls a0_0 _ _ l0_1 _ _ l0_2 _ _ l0_3 false _ ?side1 ?side2 ?side3 ?side4 ?side5 ?side6 A7.out).mono ?_); (case side1 => repeat (first | exact (Kd.C_below HR0_1.out HB.out) | (with_reducible refine Kd.C_alloc ?_ _) | (with_reducible refine Kd.C_drewN ?_ _) | (with_reducible refine Kd.C_drew ?_))); (case side2 => exact HC0_1.out); (case side3 => repeat (first | exact (Kd.C_below HR0_2.out HB.out) | (with_reducible refine Kd.C_alloc ?_ _) | (with_reducible refine Kd.C_drewN ?_ _) | (with_reducible refine Kd.C_drew ?_))); (case side4 => exact HC0_2.out); (case side5 => repeat (first | exact (Kd.C_below HR0_3.out HB.out) | (with_reducible refine Kd.C_alloc ?_ _) | (with_reducible refine Kd.C_drewN ?_ _) | (with_reducible refine Kd.C_drew ?_))); (case side6 => exact HC0_3.out); rintro e w27 ⟨rfl, hb⟩; refine ⟨_, rfl, ?_⟩; have n0_ := Aside0.mk (blk_below (g := gb291) (o := .cells #[.int .i64 a0_0, .slice A0_1 l0_1.length c0_1, .slice A0_2 l0_2.length c0_2, .slice A0_3 l0_3.length c0_3] 35 (0, 0)) (by (with_reducible repeat (first | refine blk_drewN ?_ _ | refine blk_drew ?_ | refine blk_alloc ?_ _)); exact BK291.out) hb); have n1_ := Aside0.mk (below_step (by repeat (first | (with_reducible first | exact HB.out | apply below_alloc | apply pw_below_drewN | apply below_drew1 | refine below_set ?_ GE291.out) | exact HB.out)) hb); clear BK291; clear HB; have BK291 := n0_; have HB := n1_; clear n0_ n1_; (try clear hb); (try clear hb2); (try clear hk); (try clear hi)))
      go_meet
      case rel => exact ⟨_, (true), (by first | rfl | (simp; done) | (simp [*]; done)), H', ⟨by first | omega | exact Nat.le_refl _⟩, ⟨by (with_reducible repeat (first | refine blk_drewN ?_ _ | refine blk_drew ?_ | refine blk_alloc ?_ _)); exact BK291.out⟩, ⟨by repeat (first | (with_reducible first | exact HB.out | apply below_alloc | apply pw_below_drewN | apply below_drew1 | refine below_set ?_ GE291.out) | exact HB.out)⟩⟩
  case rest =>
    clear HC4
    try clear c1
    try clear p2
    try clear c4
    try clear c8
    try clear c10
    try clear c11
    try clear c11b0
    try clear c11b1
    try clear c14
    try clear c17
    try clear hcz12_0
    try clear hcz12_1
    try clear hcz12_2
    try clear hcz12_3
    try clear hcz14_0
    try clear hcz14_1
    try clear hcz14_2
    try clear hcz14_3
    try clear hcz16_0
    try clear hcz16_1
    try clear hcz16_2
    try clear hcz16_3
    try clear hcz17_0
    try clear hcz17_1
    try clear hcz17_2
    try clear hcz17_3
    try clear hcz19_0
    try clear hcz19_1
    try clear hcz19_2
    try clear hcz19_3
    try clear hcz21_0
    try clear hcz21_1
    try clear hcz21_2
    try clear hcz21_3
    try clear hcz22_0
    try clear hcz22_1
    try clear hcz22_2
    try clear hcz22_3
    try clear hcz24_0
    try clear hcz24_1
    try clear hcz24_2
    try clear hcz24_3
    try clear hcz26_0
    try clear hcz26_1
    try clear hcz26_2
    try clear hcz26_3
    try clear hfz12_0
    try clear hfz12_1
    try clear hfz12_2
    try clear hfz12_3
    try clear hfz14_0
    try clear hfz14_1
    try clear hfz14_2
    try clear hfz14_3
    try clear hfz16_0
    try clear hfz16_1
    try clear hfz16_2
    try clear hfz16_3
    try clear hfz17_0
    try clear hfz17_1
    try clear hfz17_2
    try clear hfz17_3
    try clear hfz19_0
    try clear hfz19_1
    try clear hfz19_2
    try clear hfz19_3
    try clear hfz21_0
    try clear hfz21_1
    try clear hfz21_2
    try clear hfz21_3
    try clear hfz22_0
    try clear hfz22_1
    try clear hfz22_2
    try clear hfz22_3
    try clear hfz24_0
    try clear hfz24_1
    try clear hfz24_2
    try clear hfz24_3
    try clear hfz26_0
    try clear hfz26_1
    try clear hfz26_2
    try clear hfz26_3
    obtain ⟨kq, x40_3, rfl, HA, HJ3, BK291, HB⟩ := hcut
    cases kq with
    | zero => exact absurd HA.out (by simp [catafalquelaw11_BoxBack.j0])
    | succ kj3 =>
      have H := HA.out
      clear HA
      simp only [catafalquelaw11_BoxBack.j0] at H
      by_cases c28 : x40_3 = true
      · subst c28
        have H1 : (some t292) = some r := by rw [if_pos rfl] at H; exact H
        clear H
        have H := H1
        clear H1
        obtain rfl := Option.some.inj H
        go_wp2
        go_ret
        exact ⟨by first | rfl | (simp [errW_none, errW_some] <;> rfl) | (simp [*, errW_none, errW_some] <;> rfl), by repeat (first | (with_reducible first | exact HB.out | apply below_alloc | apply pw_below_drewN | apply below_drew1 | refine below_set ?_ GE291.out) | exact HB.out)⟩
      · replace c28 := Bool.eq_false_iff.mpr c28
        subst c28
        have H1 : ((catafalquelaw11_made.f kj3 a0_0 l0_1 l0_2 l0_3).bind fun bt295 => ((box_Send.f bt295.1 bt295.2.1 bt295.2.2.1 bt295.2.2.2 1000 a1).bind fun bt305 => (if bt305.2.2.2.2.1 = 0 then (catafalquelaw11_BoxBack.j1 kj3 a1 t292 (!bt305.2.2.2.2.2) a0_0 l0_1 l0_2 l0_3 bt305.1 bt305.2.1 bt305.2.2.1 bt305.2.2.2.1) else (catafalquelaw11_BoxBack.j1 kj3 a1 t292 true a0_0 l0_1 l0_2 l0_3 bt305.1 bt305.2.1 bt305.2.2.1 bt305.2.2.2.1)))) = some r := by rw [if_neg (show ¬ (false = true) by decide)] at H; exact H
        clear H
        have H := H1
        clear H1
        replace H := Option.bind_eq_some_iff.mp H
        obtain ⟨⟨t295, t296, t299, t302⟩, A290, H⟩ := H
        replace H : ((box_Send.f t295 t296 t299 t302 1000 a1).bind fun bt305 => (if bt305.2.2.2.2.1 = 0 then (catafalquelaw11_BoxBack.j1 kj3 a1 t292 (!bt305.2.2.2.2.2) a0_0 l0_1 l0_2 l0_3 bt305.1 bt305.2.1 bt305.2.2.1 bt305.2.2.2.1) else (catafalquelaw11_BoxBack.j1 kj3 a1 t292 true a0_0 l0_1 l0_2 l0_3 bt305.1 bt305.2.1 bt305.2.2.1 bt305.2.2.2.1))) = some r := H
        have A29 := Aside0.mk A290
        clear A290
        replace H := Option.bind_eq_some_iff.mp H
        obtain ⟨⟨t305, t306, t309, t312, t315, t316⟩, A300, H⟩ := H
        replace H : (if t315 = 0 then (catafalquelaw11_BoxBack.j1 kj3 a1 t292 (!t316) a0_0 l0_1 l0_2 l0_3 t305 t306 t309 t312) else (catafalquelaw11_BoxBack.j1 kj3 a1 t292 true a0_0 l0_1 l0_2 l0_3 t305 t306 t309 t312)) = some r := H
        have A30 := Aside0.mk A300
        clear A300
        have HC31 := Aside0.mk H
        clear H
        have hcz32_0 : wc.cell? ⟨gb291, 0, none⟩ = some (.int .i64 a0_0) := (blk_cell BK291.out 0).trans rfl
        have hcz32_1 : wc.cell? ⟨gb291, 1, none⟩ = some (.slice A0_1 l0_1.length c0_1) := (blk_cell BK291.out 1).trans rfl
        have hcz32_2 : wc.cell? ⟨gb291, 2, none⟩ = some (.slice A0_2 l0_2.length c0_2) := (blk_cell BK291.out 2).trans rfl
        have hcz32_3 : wc.cell? ⟨gb291, 3, none⟩ = some (.slice A0_3 l0_3.length c0_3) := (blk_cell BK291.out 3).trans rfl
        have hfz32_0 := blk_frozen BK291.out 0
        have hfz32_1 := blk_frozen BK291.out 1
        have hfz32_2 := blk_frozen BK291.out 2
        have hfz32_3 := blk_frozen BK291.out 3
        go_upto_region 5 with (first | ((with_reducible refine gate_callee (f := 19) rfl ?_); refine goesL_ (some 44) rfl rfl Try.func19 (by kernel_rfl) rfl #[.agg #[.int .i64 a0_0, .slice A0_1 l0_1.length c0_1, .slice A0_2 l0_2.length c0_2, .slice A0_3 l0_3.length c0_3]] rfl (by (try simp only [List.map_toArray, List.map_cons, List.map_nil]); first | done | rfl | (simp only [List.length_drop, List.length_take]; rfl)) ?_; (with_reducible refine (catafalquelaw11_made.calls kj3 a0_0 _ _ l0_1 _ _ l0_2 _ _ l0_3 t295 t296 t299 t302 _ ?side1 ?side2 ?side3 ?side4 ?side5 ?side6 A29.out).mono ?_); (case side1 => repeat (first | exact (Kd.C_below HR0_1.out HB.out) | (with_reducible refine Kd.C_alloc ?_ _) | (with_reducible refine Kd.C_drewN ?_ _) | (with_reducible refine Kd.C_drew ?_))); (case side2 => exact HC0_1.out); (case side3 => repeat (first | exact (Kd.C_below HR0_2.out HB.out) | (with_reducible refine Kd.C_alloc ?_ _) | (with_reducible refine Kd.C_drewN ?_ _) | (with_reducible refine Kd.C_drew ?_))); (case side4 => exact HC0_2.out); (case side5 => repeat (first | exact (Kd.C_below HR0_3.out HB.out) | (with_reducible refine Kd.C_alloc ?_ _) | (with_reducible refine Kd.C_drewN ?_ _) | (with_reducible refine Kd.C_drew ?_))); (case side6 => exact HC0_3.out); rintro e w33 ⟨v297, v300, v303, rfl, ho0, ho1, ho2, hb⟩; refine ⟨_, rfl, ?_⟩; have n0_ := Aside0.mk (Kd.R_lower ho0 (below_size (by repeat (first | (with_reducible first | exact HB.out | apply below_alloc | apply pw_below_drewN | apply below_drew1 | refine below_set ?_ GE291.out) | exact HB.out)))); have n1_ := Aside0.mk (Kd.R_lower ho1 (below_size (by repeat (first | (with_reducible first | exact HB.out | apply below_alloc | apply pw_below_drewN | apply below_drew1 | refine below_set ?_ GE291.out) | exact HB.out)))); have n2_ := Aside0.mk (Kd.R_lower ho2 (below_size (by repeat (first | (with_reducible first | exact HB.out | apply below_alloc | apply pw_below_drewN | apply below_drew1 | refine below_set ?_ GE291.out) | exact HB.out)))); have n3_ := Aside0.mk (blk_below (g := gb291) (o := .cells #[.int .i64 a0_0, .slice A0_1 l0_1.length c0_1, .slice A0_2 l0_2.length c0_2, .slice A0_3 l0_3.length c0_3] 35 (0, 0)) (by (with_reducible repeat (first | refine blk_drewN ?_ _ | refine blk_drew ?_ | refine blk_alloc ?_ _)); exact BK291.out) hb); have n4_ := Aside0.mk (below_step (by repeat (first | (with_reducible first | exact HB.out | apply below_alloc | apply pw_below_drewN | apply below_drew1 | refine below_set ?_ GE291.out) | exact HB.out)) hb); clear BK291; clear HB; have HO298 := n0_; have HO301 := n1_; have HO304 := n2_; have BK291 := n3_; have HB := n4_; clear n0_ n1_ n2_ n3_ n4_; (try clear hb); (try clear hb2); (try clear hk); (try clear hi); (try clear ho0); (try clear ho1); (try clear ho2); obtain ⟨Ao34, co34, eo34⟩ := Kd.R_slice HO298.out; subst eo34; obtain ⟨Ao35, co35, eo35⟩ := Kd.R_slice HO301.out; subst eo35; obtain ⟨Ao36, co36, eo36⟩ := Kd.R_slice HO304.out; subst eo36) | ((with_reducible refine gate_callee (f := 15) rfl ?_); refine goesL_ (some 46) rfl rfl Try.func15 (by kernel_rfl) rfl #[.agg #[.int .i64 t295, .slice Ao34 t296.length co34, .slice Ao35 t299.length co35, .slice Ao36 t302.length co36], .int .i64 1000, .int .i64 a1] rfl (by (try simp only [List.map_toArray, List.map_cons, List.map_nil]); first | done | rfl | (simp only [List.length_drop, List.length_take]; rfl)) ?_; (with_reducible refine (box_Send.calls t295 (fun k_ => some k_ = (.slice Ao34 t296.length co34 : Value).ownBlock) (.slice Ao34 t296.length co34) t296 (fun k_ => some k_ = (.slice Ao35 t299.length co35 : Value).ownBlock) (.slice Ao35 t299.length co35) t299 (fun k_ => some k_ = (.slice Ao36 t302.length co36 : Value).ownBlock) (.slice Ao36 t302.length co36) t302 1000 a1 t305 t306 t309 t312 t315 t316 w _ ?side1 ?side2 ?side3 ?side4 A30.out).mono ?_); (case side1 => repeat (first | (with_reducible first | exact HB.out | apply below_alloc | apply pw_below_drewN | apply below_drew1 | refine below_set ?_ GE291.out) | exact HB.out)); (case side2 => exact Kd.R_tight rfl HO298.out); (case side3 => exact Kd.R_tight rfl HO301.out); (case side4 => exact Kd.R_tight rfl HO304.out); rintro e w37 ⟨v307, v310, v313, rfl, ho0, ho1, ho2, hb, hkp⟩; refine ⟨_, rfl, ?_⟩; have n0_ := Aside0.mk (blk_kept (by (with_reducible repeat (first | refine blk_drewN ?_ _ | refine blk_drew ?_ | refine blk_alloc ?_ _)); exact BK291.out) hkp (fun hs_ => Or.elim hs_ (fun e_ => (fun e_ => (Kd.R_ne HO298.out BK291.out (by decide)) e_) e_) (fun e_ => Or.elim e_ (fun e_ => (fun e_ => (Kd.R_ne HO301.out BK291.out (by decide)) e_) e_) (fun e_ => (fun e_ => (Kd.R_ne HO304.out BK291.out (by decide)) e_) e_)))); have n1_ := Aside0.mk (Kd.R_mono (ok' := fun k_ => True) ho0 (fun k_ hk_ => trivial)); have n2_ := Aside0.mk (Kd.R_mono (ok' := fun k_ => True) ho1 (fun k_ hk_ => trivial)); have n3_ := Aside0.mk (Kd.R_mono (ok' := fun k_ => True) ho2 (fun k_ hk_ => trivial)); have n4_ := Aside0.mk (hb); clear BK291; clear HB; clear HO298; clear HO301; clear HO304; have BK291 := n0_; have HO308 := n1_; have HO311 := n2_; have HO314 := n3_; have HB := n4_; clear n0_ n1_ n2_ n3_ n4_; (try clear hb); (try clear hkp); (try clear ho0); (try clear ho1); (try clear ho2)) | ((with_reducible refine gate_dst (N := 6) rfl ?_); (try (refine gate_guard (by rfl) ?_; dsimp only)); refine box_event ?hg (N := 6) ?hd (cs := #[.int .i64 0, .slice none 0 0, .slice none 0 0, .slice none 0 0]) (t := 27) ?hr ?_; (case hd => rfl); (case hg => rfl); (case hr => first | (go_simp; done) | (go_simp; rfl)); intro gb317 hg w38 hbox hb; have n0_ := Aside0.mk (Kd.R_below (by (with_reducible repeat (first | apply Kd.R_alloc | apply Kd.R_drewN | apply Kd.R_drew)); exact HO308.out) hb); have n1_ := Aside0.mk (Kd.R_below (by (with_reducible repeat (first | apply Kd.R_alloc | apply Kd.R_drewN | apply Kd.R_drew)); exact HO311.out) hb); have n2_ := Aside0.mk (Kd.R_below (by (with_reducible repeat (first | apply Kd.R_alloc | apply Kd.R_drewN | apply Kd.R_drew)); exact HO314.out) hb); have n3_ := Aside0.mk (blk_below (g := gb291) (o := .cells #[.int .i64 a0_0, .slice A0_1 l0_1.length c0_1, .slice A0_2 l0_2.length c0_2, .slice A0_3 l0_3.length c0_3] 35 (0, 0)) (by (with_reducible repeat (first | refine blk_drewN ?_ _ | refine blk_drew ?_ | refine blk_alloc ?_ _)); exact BK291.out) hb); have n4_ := Aside0.mk (below_step (by repeat (first | (with_reducible first | exact HB.out | apply below_alloc | apply pw_below_drewN | apply below_drew1 | refine below_set ?_ GE291.out) | exact HB.out)) hb); have n5_ := Aside0.mk (hbox); have n6_ := Aside0.mk ((by rw [hg]; exact (below_size (by repeat (first | (with_reducible first | exact HB.out | apply below_alloc | apply pw_below_drewN | apply below_drew1 | refine below_set ?_ GE291.out) | exact HB.out))) : w.heap.size ≤ gb317)); have n7_ := Aside0.mk ((by rw [hg]; exact (below_size (by repeat (first | (with_reducible first | exact HB.out | apply below_alloc | apply pw_below_drewN | apply below_drew1 | refine below_set ?_ GE291.out) | exact HB.out))) : w.heap.size ≤ gb317)); have n8_ := Aside0.mk ((by rw [hg]; exact Nat.ne_of_lt (blk_lt (g := gb291) (o := .cells #[.int .i64 a0_0, .slice A0_1 l0_1.length c0_1, .slice A0_2 l0_2.length c0_2, .slice A0_3 l0_3.length c0_3] 35 (0, 0)) (by (with_reducible repeat (first | refine blk_drewN ?_ _ | refine blk_drew ?_ | refine blk_alloc ?_ _)); exact BK291.out)) : gb291 ≠ gb317)); have n9_ := Aside0.mk ((by rw [hg]; exact Nat.ne_of_gt (blk_lt (g := gb291) (o := .cells #[.int .i64 a0_0, .slice A0_1 l0_1.length c0_1, .slice A0_2 l0_2.length c0_2, .slice A0_3 l0_3.length c0_3] 35 (0, 0)) (by (with_reducible repeat (first | refine blk_drewN ?_ _ | refine blk_drew ?_ | refine blk_alloc ?_ _)); exact BK291.out)) : gb317 ≠ gb291)); clear HO308; clear HO311; clear HO314; clear BK291; clear HB; have HO308 := n0_; have HO311 := n1_; have HO314 := n2_; have BK291 := n3_; have HB := n4_; have BK317 := n5_; have GW317 := n6_; have GE317 := n7_; have NB291_317 := n8_; have NB317_291 := n9_; clear n0_ n1_ n2_ n3_ n4_ n5_ n6_ n7_ n8_ n9_; clear hb hbox hg; have hnb39 := NB317_291.out; have hnc39 := NB291_317.out; have hcz40_0 : w38.cell? ⟨gb317, 0, none⟩ = some (.int .i64 0) := (blk_cell BK317.out 0).trans rfl; have hcz40_1 : w38.cell? ⟨gb317, 1, none⟩ = some (.slice none 0 0) := (blk_cell BK317.out 1).trans rfl; have hcz40_2 : w38.cell? ⟨gb317, 2, none⟩ = some (.slice none 0 0) := (blk_cell BK317.out 2).trans rfl; have hcz40_3 : w38.cell? ⟨gb317, 3, none⟩ = some (.slice none 0 0) := (blk_cell BK317.out 3).trans rfl; have hfz40_0 := blk_frozen BK317.out 0; have hfz40_1 := blk_frozen BK317.out 1; have hfz40_2 := blk_frozen BK317.out 2; have hfz40_3 := blk_frozen BK317.out 3; obtain ⟨Ao41, co41, eo41⟩ := Kd.R_slice HO308.out; subst eo41; obtain ⟨Ao42, co42, eo42⟩ := Kd.R_slice HO311.out; subst eo42; obtain ⟨Ao43, co43, eo43⟩ := Kd.R_slice HO314.out; subst eo43))
        (try simp only [Act.put, List.setIfInBounds_toArray, List.set_cons_zero, List.set_cons_succ])
        go_cut [55] (fun v55 wc => ∃ (kq : Nat) (x55_30 : Bool), v55 = .bool x55_30 ∧ Aside0 (catafalquelaw11_BoxBack.j1 kq a1 t292 x55_30 a0_0 l0_1 l0_2 l0_3 t305 t306 t309 t312 = some r) ∧ Aside0 (kq ≤ kj3) ∧ Aside0 (Kd.R (Kd.int .i64) 2 wc w.heap.size (fun _ => True) (.slice Ao41 t306.length co41) t306) ∧ Aside0 (Kd.R k65 65 wc w.heap.size (fun _ => True) (.slice Ao42 t309.length co42) t309) ∧ Aside0 (Kd.R (Kd.int .i64) 3 wc w.heap.size (fun _ => True) (.slice Ao43 t312.length co43) t312) ∧ Aside0 (wc.heap[gb291]? = some (.cells #[.int .i64 a0_0, (.slice A0_1 l0_1.length c0_1), (.slice A0_2 l0_2.length c0_2), (.slice A0_3 l0_3.length c0_3)] 35 (0, 0))) ∧ Aside0 (wc.heap[gb317]? = some (.cells #[.int .i64 t305, (.slice Ao41 t306.length co41), (.slice Ao42 t309.length co42), (.slice Ao43 t312.length co43)] 27 (0, 0))) ∧ Aside0 (Below w.heap.size w wc))
        case first =>
          have H := HC31.out
          clear HC31
          by_cases c44 : t315 = 0
          · rw [if_pos c44] at H
            have c44b0 : (t315 == 0) = true := beq_iff_eq.mpr c44
            have c44b1 : (t315 != 0) = false := bne_eq_false_iff_eq.mpr c44
            clear c44
            (first | rw [c44b0] | (simp only [i64_w, i32_w]; rw [c44b0]) | skip)
            have H' := Aside0.mk H
            clear H
            go_wp2
            go_meet
            case rel => exact ⟨_, (!t316), (by first | rfl | (simp; done) | (simp [*]; done)), H', ⟨by have := HJ3.out; first | omega | exact Nat.le_refl _⟩, ⟨by (with_reducible repeat (first | apply Kd.R_alloc | apply Kd.R_drewN | apply Kd.R_drew)); exact Kd.R_mono (Kd.R_far (p := ⟨gb317, 3, none⟩) (Kd.R_far (p := ⟨gb317, 2, none⟩) (Kd.R_far (p := ⟨gb317, 1, none⟩) (Kd.R_far (p := ⟨gb317, 0, none⟩) (Kd.R_types HO308.out BK317.out (by decide)) (fun _ hk => hk.2) (.int .i64 t305)) (fun _ hk => hk.2) (.slice Ao41 t306.length co41)) (fun _ hk => hk.2) (.slice Ao42 t309.length co42)) (fun _ hk => hk.2) (.slice Ao43 t312.length co43)) (fun _ hk => trivial)⟩, ⟨by (with_reducible repeat (first | apply Kd.R_alloc | apply Kd.R_drewN | apply Kd.R_drew)); exact Kd.R_mono (Kd.R_far (p := ⟨gb317, 3, none⟩) (Kd.R_far (p := ⟨gb317, 2, none⟩) (Kd.R_far (p := ⟨gb317, 1, none⟩) (Kd.R_far (p := ⟨gb317, 0, none⟩) (Kd.R_types HO311.out BK317.out (by decide)) (fun _ hk => hk.2) (.int .i64 t305)) (fun _ hk => hk.2) (.slice Ao41 t306.length co41)) (fun _ hk => hk.2) (.slice Ao42 t309.length co42)) (fun _ hk => hk.2) (.slice Ao43 t312.length co43)) (fun _ hk => trivial)⟩, ⟨by (with_reducible repeat (first | apply Kd.R_alloc | apply Kd.R_drewN | apply Kd.R_drew)); exact Kd.R_mono (Kd.R_far (p := ⟨gb317, 3, none⟩) (Kd.R_far (p := ⟨gb317, 2, none⟩) (Kd.R_far (p := ⟨gb317, 1, none⟩) (Kd.R_far (p := ⟨gb317, 0, none⟩) (Kd.R_types HO314.out BK317.out (by decide)) (fun _ hk => hk.2) (.int .i64 t305)) (fun _ hk => hk.2) (.slice Ao41 t306.length co41)) (fun _ hk => hk.2) (.slice Ao42 t309.length co42)) (fun _ hk => hk.2) (.slice Ao43 t312.length co43)) (fun _ hk => trivial)⟩, ⟨by (with_reducible repeat (first | refine blk_drewN ?_ _ | refine blk_drew ?_ | refine blk_alloc ?_ _)); refine blk_far ?_ NB291_317.out _; (with_reducible repeat (first | refine blk_drewN ?_ _ | refine blk_drew ?_ | refine blk_alloc ?_ _)); refine blk_far ?_ NB291_317.out _; (with_reducible repeat (first | refine blk_drewN ?_ _ | refine blk_drew ?_ | refine blk_alloc ?_ _)); refine blk_far ?_ NB291_317.out _; (with_reducible repeat (first | refine blk_drewN ?_ _ | refine blk_drew ?_ | refine blk_alloc ?_ _)); refine blk_far ?_ NB291_317.out _; (with_reducible repeat (first | refine blk_drewN ?_ _ | refine blk_drew ?_ | refine blk_alloc ?_ _)); exact BK291.out⟩, ⟨by (with_reducible repeat (first | refine blk_drewN ?_ _ | refine blk_drew ?_ | refine blk_alloc ?_ _)); refine blk_put (cs := #[.int .i64 t305, .slice Ao41 t306.length co41, .slice Ao42 t309.length co42, .slice none 0 0]) ?_ 3 _ rfl; (with_reducible repeat (first | refine blk_drewN ?_ _ | refine blk_drew ?_ | refine blk_alloc ?_ _)); refine blk_put (cs := #[.int .i64 t305, .slice Ao41 t306.length co41, .slice none 0 0, .slice none 0 0]) ?_ 2 _ rfl; (with_reducible repeat (first | refine blk_drewN ?_ _ | refine blk_drew ?_ | refine blk_alloc ?_ _)); refine blk_put (cs := #[.int .i64 t305, .slice none 0 0, .slice none 0 0, .slice none 0 0]) ?_ 1 _ rfl; (with_reducible repeat (first | refine blk_drewN ?_ _ | refine blk_drew ?_ | refine blk_alloc ?_ _)); refine blk_put (cs := #[.int .i64 0, .slice none 0 0, .slice none 0 0, .slice none 0 0]) ?_ 0 _ rfl; (with_reducible repeat (first | refine blk_drewN ?_ _ | refine blk_drew ?_ | refine blk_alloc ?_ _)); exact BK317.out⟩, ⟨by repeat (first | (with_reducible first | exact HB.out | apply below_alloc | apply pw_below_drewN | apply below_drew1 | refine below_set ?_ GE291.out | refine below_set ?_ GE317.out) | exact HB.out)⟩⟩
          · rw [if_neg c44] at H
            have c44b0 : (t315 == 0) = false := beq_eq_false_iff_ne.mpr c44
            have c44b1 : (t315 != 0) = true := bne_iff_ne.mpr c44
            (first | rw [c44b0] | (simp only [i64_w, i32_w]; rw [c44b0]) | skip)
            have H' := Aside0.mk H
            clear H
            go_wp2
            go_meet
            case rel => exact ⟨_, (true), (by first | rfl | (simp; done) | (simp [*]; done)), H', ⟨by have := HJ3.out; first | omega | exact Nat.le_refl _⟩, ⟨by (with_reducible repeat (first | apply Kd.R_alloc | apply Kd.R_drewN | apply Kd.R_drew)); exact Kd.R_mono (Kd.R_far (p := ⟨gb317, 3, none⟩) (Kd.R_far (p := ⟨gb317, 2, none⟩) (Kd.R_far (p := ⟨gb317, 1, none⟩) (Kd.R_far (p := ⟨gb317, 0, none⟩) (Kd.R_types HO308.out BK317.out (by decide)) (fun _ hk => hk.2) (.int .i64 t305)) (fun _ hk => hk.2) (.slice Ao41 t306.length co41)) (fun _ hk => hk.2) (.slice Ao42 t309.length co42)) (fun _ hk => hk.2) (.slice Ao43 t312.length co43)) (fun _ hk => trivial)⟩, ⟨by (with_reducible repeat (first | apply Kd.R_alloc | apply Kd.R_drewN | apply Kd.R_drew)); exact Kd.R_mono (Kd.R_far (p := ⟨gb317, 3, none⟩) (Kd.R_far (p := ⟨gb317, 2, none⟩) (Kd.R_far (p := ⟨gb317, 1, none⟩) (Kd.R_far (p := ⟨gb317, 0, none⟩) (Kd.R_types HO311.out BK317.out (by decide)) (fun _ hk => hk.2) (.int .i64 t305)) (fun _ hk => hk.2) (.slice Ao41 t306.length co41)) (fun _ hk => hk.2) (.slice Ao42 t309.length co42)) (fun _ hk => hk.2) (.slice Ao43 t312.length co43)) (fun _ hk => trivial)⟩, ⟨by (with_reducible repeat (first | apply Kd.R_alloc | apply Kd.R_drewN | apply Kd.R_drew)); exact Kd.R_mono (Kd.R_far (p := ⟨gb317, 3, none⟩) (Kd.R_far (p := ⟨gb317, 2, none⟩) (Kd.R_far (p := ⟨gb317, 1, none⟩) (Kd.R_far (p := ⟨gb317, 0, none⟩) (Kd.R_types HO314.out BK317.out (by decide)) (fun _ hk => hk.2) (.int .i64 t305)) (fun _ hk => hk.2) (.slice Ao41 t306.length co41)) (fun _ hk => hk.2) (.slice Ao42 t309.length co42)) (fun _ hk => hk.2) (.slice Ao43 t312.length co43)) (fun _ hk => trivial)⟩, ⟨by (with_reducible repeat (first | refine blk_drewN ?_ _ | refine blk_drew ?_ | refine blk_alloc ?_ _)); refine blk_far ?_ NB291_317.out _; (with_reducible repeat (first | refine blk_drewN ?_ _ | refine blk_drew ?_ | refine blk_alloc ?_ _)); refine blk_far ?_ NB291_317.out _; (with_reducible repeat (first | refine blk_drewN ?_ _ | refine blk_drew ?_ | refine blk_alloc ?_ _)); refine blk_far ?_ NB291_317.out _; (with_reducible repeat (first | refine blk_drewN ?_ _ | refine blk_drew ?_ | refine blk_alloc ?_ _)); refine blk_far ?_ NB291_317.out _; (with_reducible repeat (first | refine blk_drewN ?_ _ | refine blk_drew ?_ | refine blk_alloc ?_ _)); exact BK291.out⟩, ⟨by (with_reducible repeat (first | refine blk_drewN ?_ _ | refine blk_drew ?_ | refine blk_alloc ?_ _)); refine blk_put (cs := #[.int .i64 t305, .slice Ao41 t306.length co41, .slice Ao42 t309.length co42, .slice none 0 0]) ?_ 3 _ rfl; (with_reducible repeat (first | refine blk_drewN ?_ _ | refine blk_drew ?_ | refine blk_alloc ?_ _)); refine blk_put (cs := #[.int .i64 t305, .slice Ao41 t306.length co41, .slice none 0 0, .slice none 0 0]) ?_ 2 _ rfl; (with_reducible repeat (first | refine blk_drewN ?_ _ | refine blk_drew ?_ | refine blk_alloc ?_ _)); refine blk_put (cs := #[.int .i64 t305, .slice none 0 0, .slice none 0 0, .slice none 0 0]) ?_ 1 _ rfl; (with_reducible repeat (first | refine blk_drewN ?_ _ | refine blk_drew ?_ | refine blk_alloc ?_ _)); refine blk_put (cs := #[.int .i64 0, .slice none 0 0, .slice none 0 0, .slice none 0 0]) ?_ 0 _ rfl; (with_reducible repeat (first | refine blk_drewN ?_ _ | refine blk_drew ?_ | refine blk_alloc ?_ _)); exact BK317.out⟩, ⟨by repeat (first | (with_reducible first | exact HB.out | apply below_alloc | apply pw_below_drewN | apply below_drew1 | refine below_set ?_ GE291.out | refine below_set ?_ GE317.out) | exact HB.out)⟩⟩
        case rest =>
          clear HC31
          try clear c1
          try clear c2
          try clear p2
          try clear c3
          try clear c4
          try clear c8
          try clear c10
          try clear c11
          try clear c11b0
          try clear c11b1
          try clear c14
          try clear c15
          try clear c17
          try clear c19
          try clear c28
          try clear c39
          try clear c44
          try clear c44b0
          try clear c44b1
          try clear hcz12_0
          try clear hcz12_1
          try clear hcz12_2
          try clear hcz12_3
          try clear hcz14_0
          try clear hcz14_1
          try clear hcz14_2
          try clear hcz14_3
          try clear hcz16_0
          try clear hcz16_1
          try clear hcz16_2
          try clear hcz16_3
          try clear hcz17_0
          try clear hcz17_1
          try clear hcz17_2
          try clear hcz17_3
          try clear hcz19_0
          try clear hcz19_1
          try clear hcz19_2
          try clear hcz19_3
          try clear hcz21_0
          try clear hcz21_1
          try clear hcz21_2
          try clear hcz21_3
          try clear hcz22_0
          try clear hcz22_1
          try clear hcz22_2
          try clear hcz22_3
          try clear hcz24_0
          try clear hcz24_1
          try clear hcz24_2
          try clear hcz24_3
          try clear hcz26_0
          try clear hcz26_1
          try clear hcz26_2
          try clear hcz26_3
          try clear hcz32_0
          try clear hcz32_1
          try clear hcz32_2
          try clear hcz32_3
          try clear hcz40_0
          try clear hcz40_1
          try clear hcz40_2
          try clear hcz40_3
          try clear hfz12_0
          try clear hfz12_1
          try clear hfz12_2
          try clear hfz12_3
          try clear hfz14_0
          try clear hfz14_1
          try clear hfz14_2
          try clear hfz14_3
          try clear hfz16_0
          try clear hfz16_1
          try clear hfz16_2
          try clear hfz16_3
          try clear hfz17_0
          try clear hfz17_1
          try clear hfz17_2
          try clear hfz17_3
          try clear hfz19_0
          try clear hfz19_1
          try clear hfz19_2
          try clear hfz19_3
          try clear hfz21_0
          try clear hfz21_1
          try clear hfz21_2
          try clear hfz21_3
          try clear hfz22_0
          try clear hfz22_1
          try clear hfz22_2
          try clear hfz22_3
          try clear hfz24_0
          try clear hfz24_1
          try clear hfz24_2
          try clear hfz24_3
          try clear hfz26_0
          try clear hfz26_1
          try clear hfz26_2
          try clear hfz26_3
          try clear hfz32_0
          try clear hfz32_1
          try clear hfz32_2
          try clear hfz32_3
          try clear hfz40_0
          try clear hfz40_1
          try clear hfz40_2
          try clear hfz40_3
          try clear p2
          obtain ⟨kq, x55_30, rfl, HA, HJ30, HO_318001, HO_318002, HO_318003, BK291, BK317, HB⟩ := hcut
          cases kq with
          | zero => exact absurd HA.out (by simp [catafalquelaw11_BoxBack.j1])
          | succ kj30 =>
            have H := HA.out
            clear HA
            simp only [catafalquelaw11_BoxBack.j1] at H
            by_cases c45 : x55_30 = true
            · subst c45
              have H1 : (some false) = some r := by rw [if_pos rfl] at H; exact H
              clear H
              have H := H1
              clear H1
              obtain rfl := Option.some.inj H
              go_wp2
              go_ret
              exact ⟨by first | rfl | (simp [errW_none, errW_some] <;> rfl) | (simp [*, errW_none, errW_some] <;> rfl), by repeat (first | (with_reducible first | exact HB.out | apply below_alloc | apply pw_below_drewN | apply below_drew1 | refine below_set ?_ GE291.out | refine below_set ?_ GE317.out) | exact HB.out)⟩
            · replace c45 := Bool.eq_false_iff.mpr c45
              subst c45
              have H1 : (catafalquelaw11_BoxBack.l0 kj30 a1 t292 0 a0_0 l0_1 l0_2 l0_3 t305 t306 t309 t312) = some r := by rw [if_neg (show ¬ (false = true) by decide)] at H; exact H
              clear H
              have H := H1
              clear H1
              have H' := Aside0.mk H
              clear H
              go_wp2
              go_loopg [9] kj30 (fun kq v9 w' => ∃ (x9_3 : Int) (x318000_3 : Int) (x318001_3 : List Int) (x318002_3 : List (S65)) (x318003_3 : List Int) (u318001 : Value) (u318002 : Value) (u318003 : Value), v9 = .int .i64 x9_3 ∧ Aside0 (catafalquelaw11_BoxBack.l0 kq a1 t292 x9_3 a0_0 l0_1 l0_2 l0_3 x318000_3 x318001_3 x318002_3 x318003_3 = some r) ∧ Aside0 (kq ≤ kj30) ∧ Aside0 (Kd.R (Kd.int .i64) 2 w' w.heap.size (fun _ => True) u318001 x318001_3) ∧ Aside0 (Kd.R k65 65 w' w.heap.size (fun _ => True) u318002 x318002_3) ∧ Aside0 (Kd.R (Kd.int .i64) 3 w' w.heap.size (fun _ => True) u318003 x318003_3) ∧ Aside0 (w'.heap[gb291]? = some (.cells #[.int .i64 a0_0, (.slice A0_1 l0_1.length c0_1), (.slice A0_2 l0_2.length c0_2), (.slice A0_3 l0_3.length c0_3)] 35 (0, 0))) ∧ Aside0 (w'.heap[gb317]? = some (.cells #[.int .i64 x318000_3, u318001, u318002, u318003] 27 (0, 0))) ∧ Aside0 (Below w.heap.size w w'))
              case atStart => exact ⟨(0), (t305), (t306), (t309), (t312), (.slice Ao41 t306.length co41), (.slice Ao42 t309.length co42), (.slice Ao43 t312.length co43), (by first | rfl | (simp; done) | (simp [*]; done)), H', ⟨Nat.le_refl _⟩, ⟨by (with_reducible repeat (first | apply Kd.R_alloc | apply Kd.R_drewN | apply Kd.R_drew)); exact HO_318001.out⟩, ⟨by (with_reducible repeat (first | apply Kd.R_alloc | apply Kd.R_drewN | apply Kd.R_drew)); exact HO_318002.out⟩, ⟨by (with_reducible repeat (first | apply Kd.R_alloc | apply Kd.R_drewN | apply Kd.R_drew)); exact HO_318003.out⟩, ⟨by (with_reducible repeat (first | refine blk_drewN ?_ _ | refine blk_drew ?_ | refine blk_alloc ?_ _)); exact BK291.out⟩, ⟨by (with_reducible repeat (first | refine blk_drewN ?_ _ | refine blk_drew ?_ | refine blk_alloc ?_ _)); exact BK317.out⟩, ⟨by repeat (first | (with_reducible first | exact HB.out | apply below_alloc | apply pw_below_drewN | apply below_drew1 | refine below_set ?_ GE291.out | refine below_set ?_ GE317.out) | exact HB.out)⟩⟩
              case round =>
                clear H'
                try clear c1
                try clear c2
                try clear p2
                try clear c3
                try clear c4
                try clear c8
                try clear c10
                try clear c11
                try clear c11b0
                try clear c11b1
                try clear c14
                try clear c15
                try clear c17
                try clear c19
                try clear c28
                try clear c39
                try clear c44
                try clear c44b0
                try clear c44b1
                try clear c45
                try clear hcz12_0
                try clear hcz12_1
                try clear hcz12_2
                try clear hcz12_3
                try clear hcz14_0
                try clear hcz14_1
                try clear hcz14_2
                try clear hcz14_3
                try clear hcz16_0
                try clear hcz16_1
                try clear hcz16_2
                try clear hcz16_3
                try clear hcz17_0
                try clear hcz17_1
                try clear hcz17_2
                try clear hcz17_3
                try clear hcz19_0
                try clear hcz19_1
                try clear hcz19_2
                try clear hcz19_3
                try clear hcz21_0
                try clear hcz21_1
                try clear hcz21_2
                try clear hcz21_3
                try clear hcz22_0
                try clear hcz22_1
                try clear hcz22_2
                try clear hcz22_3
                try clear hcz24_0
                try clear hcz24_1
                try clear hcz24_2
                try clear hcz24_3
                try clear hcz26_0
                try clear hcz26_1
                try clear hcz26_2
                try clear hcz26_3
                try clear hcz32_0
                try clear hcz32_1
                try clear hcz32_2
                try clear hcz32_3
                try clear hcz40_0
                try clear hcz40_1
                try clear hcz40_2
                try clear hcz40_3
                try clear hfz12_0
                try clear hfz12_1
                try clear hfz12_2
                try clear hfz12_3
                try clear hfz14_0
                try clear hfz14_1
                try clear hfz14_2
                try clear hfz14_3
                try clear hfz16_0
                try clear hfz16_1
                try clear hfz16_2
                try clear hfz16_3
                try clear hfz17_0
                try clear hfz17_1
                try clear hfz17_2
                try clear hfz17_3
                try clear hfz19_0
                try clear hfz19_1
                try clear hfz19_2
                try clear hfz19_3
                try clear hfz21_0
                try clear hfz21_1
                try clear hfz21_2
                try clear hfz21_3
                try clear hfz22_0
                try clear hfz22_1
                try clear hfz22_2
                try clear hfz22_3
                try clear hfz24_0
                try clear hfz24_1
                try clear hfz24_2
                try clear hfz24_3
                try clear hfz26_0
                try clear hfz26_1
                try clear hfz26_2
                try clear hfz26_3
                try clear hfz32_0
                try clear hfz32_1
                try clear hfz32_2
                try clear hfz32_3
                try clear hfz40_0
                try clear hfz40_1
                try clear hfz40_2
                try clear hfz40_3
                try clear p2
                obtain ⟨x9_3, x318000_3, x318001_3, x318002_3, x318003_3, u318001, u318002, u318003, rfl, HA, HK3, HO_318001, HO_318002, HO_318003, BK291, BK317, HB⟩ := hrel
                cases gk with
                | zero => exact absurd HA.out (by simp [catafalquelaw11_BoxBack.l0])
                | succ k3 =>
                  have H := HA.out
                  clear HA
                  simp only [catafalquelaw11_BoxBack.l0] at H
                  by_cases c46 : x9_3 < (l0_1.length : Int)
                  · rw [if_pos c46] at H
                    have c46b0 : decide (x9_3 < (l0_1.length : Int)) = true := decide_eq_true c46
                    clear c46
                    replace H := Option.bind_eq_some_iff.mp H
                    obtain ⟨⟨t318, t319, t322, t325, t328, t329, t330⟩, A470, H⟩ := H
                    replace H : (if 0 ≤ x9_3 then (if t328 = (rd l0_1 x9_3) then (if t329 = 0 then (if t330 = true then (catafalquelaw11_BoxBack.l0 k3 a1 t292 (wrap64 (x9_3 + 1)) a0_0 l0_1 l0_2 l0_3 t318 t319 t322 t325) else (some false)) else (some false)) else (some false)) else (none)) = some r := H
                    have A47 := Aside0.mk A470
                    clear A470
                    by_cases c48 : 0 ≤ x9_3
                    · rw [if_pos c48] at H
                      have c48b0 : decide (0 ≤ x9_3) = true := decide_eq_true c48
                      clear c48
                      by_cases c49 : t328 = (rd l0_1 x9_3)
                      · rw [if_pos c49] at H
                        have c49b0 : (t328 == (rd l0_1 x9_3)) = true := beq_iff_eq.mpr c49
                        have c49b1 : (t328 != (rd l0_1 x9_3)) = false := bne_eq_false_iff_eq.mpr c49
                        clear c49
                        by_cases c50 : t329 = 0
                        · rw [if_pos c50] at H
                          have c50b0 : (t329 == 0) = true := beq_iff_eq.mpr c50
                          have c50b1 : (t329 != 0) = false := bne_eq_false_iff_eq.mpr c50
                          clear c50
                          by_cases c51 : t330 = true
                          · subst c51
                            have H1 : (catafalquelaw11_BoxBack.l0 k3 a1 t292 (wrap64 (x9_3 + 1)) a0_0 l0_1 l0_2 l0_3 t318 t319 t322 t325) = some r := by rw [if_pos rfl] at H; exact H
                            clear H
                            have H := H1
                            clear H1
                            have H' := Aside0.mk H
                            clear H
                            have hnb52 := NB291_317.out
                            have hnc52 := NB317_291.out
                            have hcz53_0 : wr.cell? ⟨gb291, 0, none⟩ = some (.int .i64 a0_0) := (blk_cell BK291.out 0).trans rfl
                            have hcz53_1 : wr.cell? ⟨gb291, 1, none⟩ = some (.slice A0_1 l0_1.length c0_1) := (blk_cell BK291.out 1).trans rfl
                            have hcz53_2 : wr.cell? ⟨gb291, 2, none⟩ = some (.slice A0_2 l0_2.length c0_2) := (blk_cell BK291.out 2).trans rfl
                            have hcz53_3 : wr.cell? ⟨gb291, 3, none⟩ = some (.slice A0_3 l0_3.length c0_3) := (blk_cell BK291.out 3).trans rfl
                            have hfz53_0 := blk_frozen BK291.out 0
                            have hfz53_1 := blk_frozen BK291.out 1
                            have hfz53_2 := blk_frozen BK291.out 2
                            have hfz53_3 := blk_frozen BK291.out 3
                            have hcz54_0 : wr.cell? ⟨gb317, 0, none⟩ = some (.int .i64 x318000_3) := (blk_cell BK317.out 0).trans rfl
                            have hcz54_1 : wr.cell? ⟨gb317, 1, none⟩ = some (u318001) := (blk_cell BK317.out 1).trans rfl
                            have hcz54_2 : wr.cell? ⟨gb317, 2, none⟩ = some (u318002) := (blk_cell BK317.out 2).trans rfl
                            have hcz54_3 : wr.cell? ⟨gb317, 3, none⟩ = some (u318003) := (blk_cell BK317.out 3).trans rfl
                            have hfz54_0 := blk_frozen BK317.out 0
                            have hfz54_1 := blk_frozen BK317.out 1
                            have hfz54_2 := blk_frozen BK317.out 2
                            have hfz54_3 := blk_frozen BK317.out 3
                            obtain ⟨Ao55, co55, eo55⟩ := Kd.R_slice HO_318001.out
                            subst eo55
                            obtain ⟨Ao56, co56, eo56⟩ := Kd.R_slice HO_318002.out
                            subst eo56
                            obtain ⟨Ao57, co57, eo57⟩ := Kd.R_slice HO_318003.out
                            subst eo57
                            go_wp2_with (first | ((with_reducible refine gate_callee (f := 16) rfl ?_); refine goesL_ (some 65) rfl rfl Try.func16 (by kernel_rfl) rfl #[.agg #[.int .i64 x318000_3, .slice Ao55 x318001_3.length co55, .slice Ao56 x318002_3.length co56, .slice Ao57 x318003_3.length co57], .int .i64 1000] rfl (by (try simp only [List.map_toArray, List.map_cons, List.map_nil]); first | done | rfl | (simp only [List.length_drop, List.length_take]; rfl)) ?_; (with_reducible refine (box_Recv.calls k3 x318000_3 (fun k_ => some k_ = (.slice Ao55 x318001_3.length co55 : Value).ownBlock) (.slice Ao55 x318001_3.length co55) x318001_3 (fun k_ => some k_ = (.slice Ao56 x318002_3.length co56 : Value).ownBlock) (.slice Ao56 x318002_3.length co56) x318002_3 (fun k_ => some k_ = (.slice Ao57 x318003_3.length co57 : Value).ownBlock) (.slice Ao57 x318003_3.length co57) x318003_3 1000 t318 t319 t322 t325 t328 t329 true w _ ?side1 ?side2 ?side3 ?side4 A47.out).mono ?_); (case side1 => repeat (first | (with_reducible first | exact HB.out | apply below_alloc | apply pw_below_drewN | apply below_drew1 | refine below_set ?_ GE291.out | refine below_set ?_ GE317.out) | exact HB.out)); (case side2 => exact Kd.R_tight rfl HO_318001.out); (case side3 => exact Kd.R_tight rfl HO_318002.out); (case side4 => exact Kd.R_tight rfl HO_318003.out); rintro e w58 ⟨v320, v323, v326, rfl, ho0, ho1, ho2, hb, hkp⟩; refine ⟨_, rfl, ?_⟩; have n0_ := Aside0.mk (blk_kept (by (with_reducible repeat (first | refine blk_drewN ?_ _ | refine blk_drew ?_ | refine blk_alloc ?_ _)); exact BK291.out) hkp (fun hs_ => Or.elim hs_ (fun e_ => (fun e_ => (Kd.R_ne HO_318001.out BK291.out (by decide)) e_) e_) (fun e_ => Or.elim e_ (fun e_ => (fun e_ => (Kd.R_ne HO_318002.out BK291.out (by decide)) e_) e_) (fun e_ => (fun e_ => (Kd.R_ne HO_318003.out BK291.out (by decide)) e_) e_)))); have n1_ := Aside0.mk (blk_kept (by (with_reducible repeat (first | refine blk_drewN ?_ _ | refine blk_drew ?_ | refine blk_alloc ?_ _)); exact BK317.out) hkp (fun hs_ => Or.elim hs_ (fun e_ => (fun e_ => (Kd.R_ne HO_318001.out BK317.out (by decide)) e_) e_) (fun e_ => Or.elim e_ (fun e_ => (fun e_ => (Kd.R_ne HO_318002.out BK317.out (by decide)) e_) e_) (fun e_ => (fun e_ => (Kd.R_ne HO_318003.out BK317.out (by decide)) e_) e_)))); have n2_ := Aside0.mk (Kd.R_mono (ok' := fun k_ => True) ho0 (fun k_ hk_ => trivial)); have n3_ := Aside0.mk (Kd.R_mono (ok' := fun k_ => True) ho1 (fun k_ hk_ => trivial)); have n4_ := Aside0.mk (Kd.R_mono (ok' := fun k_ => True) ho2 (fun k_ hk_ => trivial)); have n5_ := Aside0.mk (hb); clear BK291; clear BK317; clear HB; clear HO_318001; clear HO_318002; clear HO_318003; have BK291 := n0_; have BK317 := n1_; have HO321 := n2_; have HO324 := n3_; have HO327 := n4_; have HB := n5_; clear n0_ n1_ n2_ n3_ n4_ n5_; (try clear hb); (try clear hkp); (try clear ho0); (try clear ho1); (try clear ho2)) | ((with_reducible refine gate_dst (N := 10) rfl ?_); (try (refine gate_guard (by rfl) ?_; dsimp only)); refine box_event ?hg (N := 10) ?hd (cs := #[.int .i64 0, .slice none 0 0, .slice none 0 0, .slice none 0 0]) (t := 27) ?hr ?_; (case hd => rfl); (case hg => rfl); (case hr => first | (go_simp; done) | (go_simp; rfl)); intro gb331 hg w59 hbox hb; have n0_ := Aside0.mk (Kd.R_below (by (with_reducible repeat (first | apply Kd.R_alloc | apply Kd.R_drewN | apply Kd.R_drew)); exact HO321.out) hb); have n1_ := Aside0.mk (Kd.R_below (by (with_reducible repeat (first | apply Kd.R_alloc | apply Kd.R_drewN | apply Kd.R_drew)); exact HO324.out) hb); have n2_ := Aside0.mk (Kd.R_below (by (with_reducible repeat (first | apply Kd.R_alloc | apply Kd.R_drewN | apply Kd.R_drew)); exact HO327.out) hb); have n3_ := Aside0.mk (blk_below (g := gb291) (o := .cells #[.int .i64 a0_0, .slice A0_1 l0_1.length c0_1, .slice A0_2 l0_2.length c0_2, .slice A0_3 l0_3.length c0_3] 35 (0, 0)) (by (with_reducible repeat (first | refine blk_drewN ?_ _ | refine blk_drew ?_ | refine blk_alloc ?_ _)); exact BK291.out) hb); have n4_ := Aside0.mk (blk_below (g := gb317) (o := .cells #[.int .i64 x318000_3, .slice Ao55 x318001_3.length co55, .slice Ao56 x318002_3.length co56, .slice Ao57 x318003_3.length co57] 27 (0, 0)) (by (with_reducible repeat (first | refine blk_drewN ?_ _ | refine blk_drew ?_ | refine blk_alloc ?_ _)); exact BK317.out) hb); have n5_ := Aside0.mk (below_step (by repeat (first | (with_reducible first | exact HB.out | apply below_alloc | apply pw_below_drewN | apply below_drew1 | refine below_set ?_ GE291.out | refine below_set ?_ GE317.out) | exact HB.out)) hb); have n6_ := Aside0.mk (hbox); have n7_ := Aside0.mk ((by rw [hg]; exact (below_size (by repeat (first | (with_reducible first | exact HB.out | apply below_alloc | apply pw_below_drewN | apply below_drew1 | refine below_set ?_ GE291.out | refine below_set ?_ GE317.out) | exact HB.out))) : w.heap.size ≤ gb331)); have n8_ := Aside0.mk ((by rw [hg]; exact (below_size (by repeat (first | (with_reducible first | exact HB.out | apply below_alloc | apply pw_below_drewN | apply below_drew1 | refine below_set ?_ GE291.out | refine below_set ?_ GE317.out) | exact HB.out))) : w.heap.size ≤ gb331)); have n9_ := Aside0.mk ((by rw [hg]; exact Nat.ne_of_lt (blk_lt (g := gb291) (o := .cells #[.int .i64 a0_0, .slice A0_1 l0_1.length c0_1, .slice A0_2 l0_2.length c0_2, .slice A0_3 l0_3.length c0_3] 35 (0, 0)) (by (with_reducible repeat (first | refine blk_drewN ?_ _ | refine blk_drew ?_ | refine blk_alloc ?_ _)); exact BK291.out)) : gb291 ≠ gb331)); have n10_ := Aside0.mk ((by rw [hg]; exact Nat.ne_of_gt (blk_lt (g := gb291) (o := .cells #[.int .i64 a0_0, .slice A0_1 l0_1.length c0_1, .slice A0_2 l0_2.length c0_2, .slice A0_3 l0_3.length c0_3] 35 (0, 0)) (by (with_reducible repeat (first | refine blk_drewN ?_ _ | refine blk_drew ?_ | refine blk_alloc ?_ _)); exact BK291.out)) : gb331 ≠ gb291)); have n11_ := Aside0.mk ((by rw [hg]; exact Nat.ne_of_lt (blk_lt (g := gb317) (o := .cells #[.int .i64 x318000_3, .slice Ao55 x318001_3.length co55, .slice Ao56 x318002_3.length co56, .slice Ao57 x318003_3.length co57] 27 (0, 0)) (by (with_reducible repeat (first | refine blk_drewN ?_ _ | refine blk_drew ?_ | refine blk_alloc ?_ _)); exact BK317.out)) : gb317 ≠ gb331)); have n12_ := Aside0.mk ((by rw [hg]; exact Nat.ne_of_gt (blk_lt (g := gb317) (o := .cells #[.int .i64 x318000_3, .slice Ao55 x318001_3.length co55, .slice Ao56 x318002_3.length co56, .slice Ao57 x318003_3.length co57] 27 (0, 0)) (by (with_reducible repeat (first | refine blk_drewN ?_ _ | refine blk_drew ?_ | refine blk_alloc ?_ _)); exact BK317.out)) : gb331 ≠ gb317)); clear HO321; clear HO324; clear HO327; clear BK291; clear BK317; clear HB; have HO321 := n0_; have HO324 := n1_; have HO327 := n2_; have BK291 := n3_; have BK317 := n4_; have HB := n5_; have BK331 := n6_; have GW331 := n7_; have GE331 := n8_; have NB291_331 := n9_; have NB331_291 := n10_; have NB317_331 := n11_; have NB331_317 := n12_; clear n0_ n1_ n2_ n3_ n4_ n5_ n6_ n7_ n8_ n9_ n10_ n11_ n12_; clear hb hbox hg; have hnb60 := NB331_291.out; have hnc60 := NB291_331.out; have hnb61 := NB331_317.out; have hnc61 := NB317_331.out; have hcz62_0 : w59.cell? ⟨gb331, 0, none⟩ = some (.int .i64 0) := (blk_cell BK331.out 0).trans rfl; have hcz62_1 : w59.cell? ⟨gb331, 1, none⟩ = some (.slice none 0 0) := (blk_cell BK331.out 1).trans rfl; have hcz62_2 : w59.cell? ⟨gb331, 2, none⟩ = some (.slice none 0 0) := (blk_cell BK331.out 2).trans rfl; have hcz62_3 : w59.cell? ⟨gb331, 3, none⟩ = some (.slice none 0 0) := (blk_cell BK331.out 3).trans rfl; have hfz62_0 := blk_frozen BK331.out 0; have hfz62_1 := blk_frozen BK331.out 1; have hfz62_2 := blk_frozen BK331.out 2; have hfz62_3 := blk_frozen BK331.out 3; obtain ⟨Ao63, co63, eo63⟩ := Kd.R_slice HO321.out; subst eo63; obtain ⟨Ao64, co64, eo64⟩ := Kd.R_slice HO324.out; subst eo64; obtain ⟨Ao65, co65, eo65⟩ := Kd.R_slice HO327.out; subst eo65; have hcz66_0 : w59.cell? ⟨gb317, 0, none⟩ = some (.int .i64 x318000_3) := (blk_cell BK317.out 0).trans rfl; have hcz66_1 : w59.cell? ⟨gb317, 1, none⟩ = some (.slice Ao55 x318001_3.length co55) := (blk_cell BK317.out 1).trans rfl; have hcz66_2 : w59.cell? ⟨gb317, 2, none⟩ = some (.slice Ao56 x318002_3.length co56) := (blk_cell BK317.out 2).trans rfl; have hcz66_3 : w59.cell? ⟨gb317, 3, none⟩ = some (.slice Ao57 x318003_3.length co57) := (blk_cell BK317.out 3).trans rfl; have hfz66_0 := blk_frozen BK317.out 0; have hfz66_1 := blk_frozen BK317.out 1; have hfz66_2 := blk_frozen BK317.out 2; have hfz66_3 := blk_frozen BK317.out 3; have hcz67_0 : w59.cell? ⟨gb291, 0, none⟩ = some (.int .i64 a0_0) := (blk_cell BK291.out 0).trans rfl; have hcz67_1 : w59.cell? ⟨gb291, 1, none⟩ = some (.slice A0_1 l0_1.length c0_1) := (blk_cell BK291.out 1).trans rfl; have hcz67_2 : w59.cell? ⟨gb291, 2, none⟩ = some (.slice A0_2 l0_2.length c0_2) := (blk_cell BK291.out 2).trans rfl; have hcz67_3 : w59.cell? ⟨gb291, 3, none⟩ = some (.slice A0_3 l0_3.length c0_3) := (blk_cell BK291.out 3).trans rfl; have hfz67_0 := blk_frozen BK291.out 0; have hfz67_1 := blk_frozen BK291.out 1; have hfz67_2 := blk_frozen BK291.out 2; have hfz67_3 := blk_frozen BK291.out 3; have p332 : 0 ≤ (x9_3 : Int) := of_decide_eq_true (by first | (with_reducible assumption) | assumption); have q332 : x9_3 < (l0_1.length : Int) := of_decide_eq_true (by first | (with_reducible assumption) | assumption); obtain ⟨ad332, e332, hx332_0⟩ := Kd.at_int HR0_1.out x9_3 p332 q332; cases e332; have hn332_0 : ad332.block ≠ gb331 := Nat.ne_of_lt (Nat.lt_of_lt_of_le (by have := World.block_lt_of_cell? _ _ hx332_0; first | rwa [add_block] at this | exact this) GW331.out); have hn332_1 : ad332.block ≠ gb331 := Nat.ne_of_lt (Nat.lt_of_lt_of_le (by have := World.block_lt_of_cell? _ _ hx332_0; first | rwa [add_block] at this | exact this) GW331.out); have hn332_2 : ad332.block ≠ gb331 := Nat.ne_of_lt (Nat.lt_of_lt_of_le (by have := World.block_lt_of_cell? _ _ hx332_0; first | rwa [add_block] at this | exact this) GW331.out); have hn332_3 : ad332.block ≠ gb331 := Nat.ne_of_lt (Nat.lt_of_lt_of_le (by have := World.block_lt_of_cell? _ _ hx332_0; first | rwa [add_block] at this | exact this) GW331.out); have hn332_4 : ad332.block ≠ gb317 := Nat.ne_of_lt (Nat.lt_of_lt_of_le (by have := World.block_lt_of_cell? _ _ hx332_0; first | rwa [add_block] at this | exact this) GW317.out); have hn332_5 : ad332.block ≠ gb317 := Nat.ne_of_lt (Nat.lt_of_lt_of_le (by have := World.block_lt_of_cell? _ _ hx332_0; first | rwa [add_block] at this | exact this) GW317.out); have hn332_6 : ad332.block ≠ gb317 := Nat.ne_of_lt (Nat.lt_of_lt_of_le (by have := World.block_lt_of_cell? _ _ hx332_0; first | rwa [add_block] at this | exact this) GW317.out); have hn332_7 : ad332.block ≠ gb317 := Nat.ne_of_lt (Nat.lt_of_lt_of_le (by have := World.block_lt_of_cell? _ _ hx332_0; first | rwa [add_block] at this | exact this) GW317.out); replace hx332_0 := (HB.out.cell (World.block_lt_of_cell? w _ hx332_0)).trans hx332_0; replace hx332_0 := (cell_far (p := ⟨gb331, 0, none⟩) (by first | (rw [add_block]; exact hn332_0) | (show (Addr.add _ _).block ≠ _; rw [add_block]; exact hn332_0) | exact hn332_0) (.int .i64 t318)).trans hx332_0; replace hx332_0 := (cell_far (p := ⟨gb331, 1, none⟩) (by first | (rw [add_block]; exact hn332_1) | (show (Addr.add _ _).block ≠ _; rw [add_block]; exact hn332_1) | exact hn332_1) (.slice Ao63 t319.length co63)).trans hx332_0; replace hx332_0 := (cell_far (p := ⟨gb331, 2, none⟩) (by first | (rw [add_block]; exact hn332_2) | (show (Addr.add _ _).block ≠ _; rw [add_block]; exact hn332_2) | exact hn332_2) (.slice Ao64 t322.length co64)).trans hx332_0; replace hx332_0 := (cell_far (p := ⟨gb331, 3, none⟩) (by first | (rw [add_block]; exact hn332_3) | (show (Addr.add _ _).block ≠ _; rw [add_block]; exact hn332_3) | exact hn332_3) (.slice Ao65 t325.length co65)).trans hx332_0; replace hx332_0 := (cell_far (p := ⟨gb317, 0, none⟩) (by first | (rw [add_block]; exact hn332_4) | (show (Addr.add _ _).block ≠ _; rw [add_block]; exact hn332_4) | exact hn332_4) (.int .i64 t318)).trans hx332_0; replace hx332_0 := (cell_far (p := ⟨gb317, 1, none⟩) (by first | (rw [add_block]; exact hn332_5) | (show (Addr.add _ _).block ≠ _; rw [add_block]; exact hn332_5) | exact hn332_5) (.slice Ao63 t319.length co63)).trans hx332_0; replace hx332_0 := (cell_far (p := ⟨gb317, 2, none⟩) (by first | (rw [add_block]; exact hn332_6) | (show (Addr.add _ _).block ≠ _; rw [add_block]; exact hn332_6) | exact hn332_6) (.slice Ao64 t322.length co64)).trans hx332_0; replace hx332_0 := (cell_far (p := ⟨gb317, 3, none⟩) (by first | (rw [add_block]; exact hn332_7) | (show (Addr.add _ _).block ≠ _; rw [add_block]; exact hn332_7) | exact hn332_7) (.slice Ao65 t325.length co65)).trans hx332_0; clear hn332_0; clear hn332_1; clear hn332_2; clear hn332_3; clear hn332_4; clear hn332_5; clear hn332_6; clear hn332_7; replace p332 := eq_true p332; replace q332 := eq_true q332))
                            go_roundg k3
                            case measure => have := HJ3.out; have := HJ30.out; have := HK3.out; omega
                            case rel => exact ⟨(wrap64 (x9_3 + 1)), (t318), (t319), (t322), (t325), (.slice Ao63 t319.length co63), (.slice Ao64 t322.length co64), (.slice Ao65 t325.length co65), (by first | rfl | (simp; done) | (simp [*]; done)), H', ⟨by have := HJ3.out; have := HJ30.out; have := HK3.out; omega⟩, ⟨by (with_reducible repeat (first | apply Kd.R_alloc | apply Kd.R_drewN | apply Kd.R_drew)); exact Kd.R_mono (Kd.R_far (p := ⟨gb317, 3, none⟩) (Kd.R_far (p := ⟨gb317, 2, none⟩) (Kd.R_far (p := ⟨gb317, 1, none⟩) (Kd.R_far (p := ⟨gb317, 0, none⟩) (Kd.R_far (p := ⟨gb331, 3, none⟩) (Kd.R_far (p := ⟨gb331, 2, none⟩) (Kd.R_far (p := ⟨gb331, 1, none⟩) (Kd.R_far (p := ⟨gb331, 0, none⟩) (Kd.R_types (Kd.R_types HO321.out BK331.out (by decide)) BK317.out (by decide)) (fun _ hk => hk.1.2) (.int .i64 t318)) (fun _ hk => hk.1.2) (.slice Ao63 t319.length co63)) (fun _ hk => hk.1.2) (.slice Ao64 t322.length co64)) (fun _ hk => hk.1.2) (.slice Ao65 t325.length co65)) (fun _ hk => hk.2) (.int .i64 t318)) (fun _ hk => hk.2) (.slice Ao63 t319.length co63)) (fun _ hk => hk.2) (.slice Ao64 t322.length co64)) (fun _ hk => hk.2) (.slice Ao65 t325.length co65)) (fun _ hk => trivial)⟩, ⟨by (with_reducible repeat (first | apply Kd.R_alloc | apply Kd.R_drewN | apply Kd.R_drew)); exact Kd.R_mono (Kd.R_far (p := ⟨gb317, 3, none⟩) (Kd.R_far (p := ⟨gb317, 2, none⟩) (Kd.R_far (p := ⟨gb317, 1, none⟩) (Kd.R_far (p := ⟨gb317, 0, none⟩) (Kd.R_far (p := ⟨gb331, 3, none⟩) (Kd.R_far (p := ⟨gb331, 2, none⟩) (Kd.R_far (p := ⟨gb331, 1, none⟩) (Kd.R_far (p := ⟨gb331, 0, none⟩) (Kd.R_types (Kd.R_types HO324.out BK331.out (by decide)) BK317.out (by decide)) (fun _ hk => hk.1.2) (.int .i64 t318)) (fun _ hk => hk.1.2) (.slice Ao63 t319.length co63)) (fun _ hk => hk.1.2) (.slice Ao64 t322.length co64)) (fun _ hk => hk.1.2) (.slice Ao65 t325.length co65)) (fun _ hk => hk.2) (.int .i64 t318)) (fun _ hk => hk.2) (.slice Ao63 t319.length co63)) (fun _ hk => hk.2) (.slice Ao64 t322.length co64)) (fun _ hk => hk.2) (.slice Ao65 t325.length co65)) (fun _ hk => trivial)⟩, ⟨by (with_reducible repeat (first | apply Kd.R_alloc | apply Kd.R_drewN | apply Kd.R_drew)); exact Kd.R_mono (Kd.R_far (p := ⟨gb317, 3, none⟩) (Kd.R_far (p := ⟨gb317, 2, none⟩) (Kd.R_far (p := ⟨gb317, 1, none⟩) (Kd.R_far (p := ⟨gb317, 0, none⟩) (Kd.R_far (p := ⟨gb331, 3, none⟩) (Kd.R_far (p := ⟨gb331, 2, none⟩) (Kd.R_far (p := ⟨gb331, 1, none⟩) (Kd.R_far (p := ⟨gb331, 0, none⟩) (Kd.R_types (Kd.R_types HO327.out BK331.out (by decide)) BK317.out (by decide)) (fun _ hk => hk.1.2) (.int .i64 t318)) (fun _ hk => hk.1.2) (.slice Ao63 t319.length co63)) (fun _ hk => hk.1.2) (.slice Ao64 t322.length co64)) (fun _ hk => hk.1.2) (.slice Ao65 t325.length co65)) (fun _ hk => hk.2) (.int .i64 t318)) (fun _ hk => hk.2) (.slice Ao63 t319.length co63)) (fun _ hk => hk.2) (.slice Ao64 t322.length co64)) (fun _ hk => hk.2) (.slice Ao65 t325.length co65)) (fun _ hk => trivial)⟩, ⟨by (with_reducible repeat (first | refine blk_drewN ?_ _ | refine blk_drew ?_ | refine blk_alloc ?_ _)); refine blk_far ?_ NB291_317.out _; (with_reducible repeat (first | refine blk_drewN ?_ _ | refine blk_drew ?_ | refine blk_alloc ?_ _)); refine blk_far ?_ NB291_317.out _; (with_reducible repeat (first | refine blk_drewN ?_ _ | refine blk_drew ?_ | refine blk_alloc ?_ _)); refine blk_far ?_ NB291_317.out _; (with_reducible repeat (first | refine blk_drewN ?_ _ | refine blk_drew ?_ | refine blk_alloc ?_ _)); refine blk_far ?_ NB291_317.out _; (with_reducible repeat (first | refine blk_drewN ?_ _ | refine blk_drew ?_ | refine blk_alloc ?_ _)); refine blk_far ?_ NB291_331.out _; (with_reducible repeat (first | refine blk_drewN ?_ _ | refine blk_drew ?_ | refine blk_alloc ?_ _)); refine blk_far ?_ NB291_331.out _; (with_reducible repeat (first | refine blk_drewN ?_ _ | refine blk_drew ?_ | refine blk_alloc ?_ _)); refine blk_far ?_ NB291_331.out _; (with_reducible repeat (first | refine blk_drewN ?_ _ | refine blk_drew ?_ | refine blk_alloc ?_ _)); refine blk_far ?_ NB291_331.out _; (with_reducible repeat (first | refine blk_drewN ?_ _ | refine blk_drew ?_ | refine blk_alloc ?_ _)); exact BK291.out⟩, ⟨by (with_reducible repeat (first | refine blk_drewN ?_ _ | refine blk_drew ?_ | refine blk_alloc ?_ _)); refine blk_put (cs := #[.int .i64 t318, .slice Ao63 t319.length co63, .slice Ao64 t322.length co64, .slice Ao57 x318003_3.length co57]) ?_ 3 _ rfl; (with_reducible repeat (first | refine blk_drewN ?_ _ | refine blk_drew ?_ | refine blk_alloc ?_ _)); refine blk_put (cs := #[.int .i64 t318, .slice Ao63 t319.length co63, .slice Ao56 x318002_3.length co56, .slice Ao57 x318003_3.length co57]) ?_ 2 _ rfl; (with_reducible repeat (first | refine blk_drewN ?_ _ | refine blk_drew ?_ | refine blk_alloc ?_ _)); refine blk_put (cs := #[.int .i64 t318, .slice Ao55 x318001_3.length co55, .slice Ao56 x318002_3.length co56, .slice Ao57 x318003_3.length co57]) ?_ 1 _ rfl; (with_reducible repeat (first | refine blk_drewN ?_ _ | refine blk_drew ?_ | refine blk_alloc ?_ _)); refine blk_put (cs := #[.int .i64 x318000_3, .slice Ao55 x318001_3.length co55, .slice Ao56 x318002_3.length co56, .slice Ao57 x318003_3.length co57]) ?_ 0 _ rfl; (with_reducible repeat (first | refine blk_drewN ?_ _ | refine blk_drew ?_ | refine blk_alloc ?_ _)); refine blk_far ?_ NB317_331.out _; (with_reducible repeat (first | refine blk_drewN ?_ _ | refine blk_drew ?_ | refine blk_alloc ?_ _)); refine blk_far ?_ NB317_331.out _; (with_reducible repeat (first | refine blk_drewN ?_ _ | refine blk_drew ?_ | refine blk_alloc ?_ _)); refine blk_far ?_ NB317_331.out _; (with_reducible repeat (first | refine blk_drewN ?_ _ | refine blk_drew ?_ | refine blk_alloc ?_ _)); refine blk_far ?_ NB317_331.out _; (with_reducible repeat (first | refine blk_drewN ?_ _ | refine blk_drew ?_ | refine blk_alloc ?_ _)); exact BK317.out⟩, ⟨by repeat (first | (with_reducible first | exact HB.out | apply below_alloc | apply pw_below_drewN | apply below_drew1 | refine below_set ?_ GE291.out | refine below_set ?_ GE317.out | refine below_set ?_ GE331.out) | exact HB.out)⟩⟩
                          · replace c51 := Bool.eq_false_iff.mpr c51
                            subst c51
                            have H1 : (some false) = some r := by rw [if_neg (show ¬ (false = true) by decide)] at H; exact H
                            clear H
                            have H := H1
                            clear H1
                            obtain rfl := Option.some.inj H
                            have hnb68 := NB291_317.out
                            have hnc68 := NB317_291.out
                            have hcz69_0 : wr.cell? ⟨gb291, 0, none⟩ = some (.int .i64 a0_0) := (blk_cell BK291.out 0).trans rfl
                            have hcz69_1 : wr.cell? ⟨gb291, 1, none⟩ = some (.slice A0_1 l0_1.length c0_1) := (blk_cell BK291.out 1).trans rfl
                            have hcz69_2 : wr.cell? ⟨gb291, 2, none⟩ = some (.slice A0_2 l0_2.length c0_2) := (blk_cell BK291.out 2).trans rfl
                            have hcz69_3 : wr.cell? ⟨gb291, 3, none⟩ = some (.slice A0_3 l0_3.length c0_3) := (blk_cell BK291.out 3).trans rfl
                            have hfz69_0 := blk_frozen BK291.out 0
                            have hfz69_1 := blk_frozen BK291.out 1
                            have hfz69_2 := blk_frozen BK291.out 2
                            have hfz69_3 := blk_frozen BK291.out 3
                            have hcz70_0 : wr.cell? ⟨gb317, 0, none⟩ = some (.int .i64 x318000_3) := (blk_cell BK317.out 0).trans rfl
                            have hcz70_1 : wr.cell? ⟨gb317, 1, none⟩ = some (u318001) := (blk_cell BK317.out 1).trans rfl
                            have hcz70_2 : wr.cell? ⟨gb317, 2, none⟩ = some (u318002) := (blk_cell BK317.out 2).trans rfl
                            have hcz70_3 : wr.cell? ⟨gb317, 3, none⟩ = some (u318003) := (blk_cell BK317.out 3).trans rfl
                            have hfz70_0 := blk_frozen BK317.out 0
                            have hfz70_1 := blk_frozen BK317.out 1
                            have hfz70_2 := blk_frozen BK317.out 2
                            have hfz70_3 := blk_frozen BK317.out 3
                            obtain ⟨Ao71, co71, eo71⟩ := Kd.R_slice HO_318001.out
                            subst eo71
                            obtain ⟨Ao72, co72, eo72⟩ := Kd.R_slice HO_318002.out
                            subst eo72
                            obtain ⟨Ao73, co73, eo73⟩ := Kd.R_slice HO_318003.out
                            subst eo73
                            go_wp2_with (first | ((with_reducible refine gate_callee (f := 16) rfl ?_); refine goesL_ (some 65) rfl rfl Try.func16 (by kernel_rfl) rfl #[.agg #[.int .i64 x318000_3, .slice Ao71 x318001_3.length co71, .slice Ao72 x318002_3.length co72, .slice Ao73 x318003_3.length co73], .int .i64 1000] rfl (by (try simp only [List.map_toArray, List.map_cons, List.map_nil]); first | done | rfl | (simp only [List.length_drop, List.length_take]; rfl)) ?_; (with_reducible refine (box_Recv.calls k3 x318000_3 (fun k_ => some k_ = (.slice Ao71 x318001_3.length co71 : Value).ownBlock) (.slice Ao71 x318001_3.length co71) x318001_3 (fun k_ => some k_ = (.slice Ao72 x318002_3.length co72 : Value).ownBlock) (.slice Ao72 x318002_3.length co72) x318002_3 (fun k_ => some k_ = (.slice Ao73 x318003_3.length co73 : Value).ownBlock) (.slice Ao73 x318003_3.length co73) x318003_3 1000 t318 t319 t322 t325 t328 t329 false w _ ?side1 ?side2 ?side3 ?side4 A47.out).mono ?_); (case side1 => repeat (first | (with_reducible first | exact HB.out | apply below_alloc | apply pw_below_drewN | apply below_drew1 | refine below_set ?_ GE291.out | refine below_set ?_ GE317.out) | exact HB.out)); (case side2 => exact Kd.R_tight rfl HO_318001.out); (case side3 => exact Kd.R_tight rfl HO_318002.out); (case side4 => exact Kd.R_tight rfl HO_318003.out); rintro e w74 ⟨v320, v323, v326, rfl, ho0, ho1, ho2, hb, hkp⟩; refine ⟨_, rfl, ?_⟩; have n0_ := Aside0.mk (blk_kept (by (with_reducible repeat (first | refine blk_drewN ?_ _ | refine blk_drew ?_ | refine blk_alloc ?_ _)); exact BK291.out) hkp (fun hs_ => Or.elim hs_ (fun e_ => (fun e_ => (Kd.R_ne HO_318001.out BK291.out (by decide)) e_) e_) (fun e_ => Or.elim e_ (fun e_ => (fun e_ => (Kd.R_ne HO_318002.out BK291.out (by decide)) e_) e_) (fun e_ => (fun e_ => (Kd.R_ne HO_318003.out BK291.out (by decide)) e_) e_)))); have n1_ := Aside0.mk (blk_kept (by (with_reducible repeat (first | refine blk_drewN ?_ _ | refine blk_drew ?_ | refine blk_alloc ?_ _)); exact BK317.out) hkp (fun hs_ => Or.elim hs_ (fun e_ => (fun e_ => (Kd.R_ne HO_318001.out BK317.out (by decide)) e_) e_) (fun e_ => Or.elim e_ (fun e_ => (fun e_ => (Kd.R_ne HO_318002.out BK317.out (by decide)) e_) e_) (fun e_ => (fun e_ => (Kd.R_ne HO_318003.out BK317.out (by decide)) e_) e_)))); have n2_ := Aside0.mk (Kd.R_mono (ok' := fun k_ => True) ho0 (fun k_ hk_ => trivial)); have n3_ := Aside0.mk (Kd.R_mono (ok' := fun k_ => True) ho1 (fun k_ hk_ => trivial)); have n4_ := Aside0.mk (Kd.R_mono (ok' := fun k_ => True) ho2 (fun k_ hk_ => trivial)); have n5_ := Aside0.mk (hb); clear BK291; clear BK317; clear HB; clear HO_318001; clear HO_318002; clear HO_318003; have BK291 := n0_; have BK317 := n1_; have HO321 := n2_; have HO324 := n3_; have HO327 := n4_; have HB := n5_; clear n0_ n1_ n2_ n3_ n4_ n5_; (try clear hb); (try clear hkp); (try clear ho0); (try clear ho1); (try clear ho2)) | ((with_reducible refine gate_dst (N := 10) rfl ?_); (try (refine gate_guard (by rfl) ?_; dsimp only)); refine box_event ?hg (N := 10) ?hd (cs := #[.int .i64 0, .slice none 0 0, .slice none 0 0, .slice none 0 0]) (t := 27) ?hr ?_; (case hd => rfl); (case hg => rfl); (case hr => first | (go_simp; done) | (go_simp; rfl)); intro gb331 hg w75 hbox hb; have n0_ := Aside0.mk (Kd.R_below (by (with_reducible repeat (first | apply Kd.R_alloc | apply Kd.R_drewN | apply Kd.R_drew)); exact HO321.out) hb); have n1_ := Aside0.mk (Kd.R_below (by (with_reducible repeat (first | apply Kd.R_alloc | apply Kd.R_drewN | apply Kd.R_drew)); exact HO324.out) hb); have n2_ := Aside0.mk (Kd.R_below (by (with_reducible repeat (first | apply Kd.R_alloc | apply Kd.R_drewN | apply Kd.R_drew)); exact HO327.out) hb); have n3_ := Aside0.mk (blk_below (g := gb291) (o := .cells #[.int .i64 a0_0, .slice A0_1 l0_1.length c0_1, .slice A0_2 l0_2.length c0_2, .slice A0_3 l0_3.length c0_3] 35 (0, 0)) (by (with_reducible repeat (first | refine blk_drewN ?_ _ | refine blk_drew ?_ | refine blk_alloc ?_ _)); exact BK291.out) hb); have n4_ := Aside0.mk (blk_below (g := gb317) (o := .cells #[.int .i64 x318000_3, .slice Ao71 x318001_3.length co71, .slice Ao72 x318002_3.length co72, .slice Ao73 x318003_3.length co73] 27 (0, 0)) (by (with_reducible repeat (first | refine blk_drewN ?_ _ | refine blk_drew ?_ | refine blk_alloc ?_ _)); exact BK317.out) hb); have n5_ := Aside0.mk (below_step (by repeat (first | (with_reducible first | exact HB.out | apply below_alloc | apply pw_below_drewN | apply below_drew1 | refine below_set ?_ GE291.out | refine below_set ?_ GE317.out) | exact HB.out)) hb); have n6_ := Aside0.mk (hbox); have n7_ := Aside0.mk ((by rw [hg]; exact (below_size (by repeat (first | (with_reducible first | exact HB.out | apply below_alloc | apply pw_below_drewN | apply below_drew1 | refine below_set ?_ GE291.out | refine below_set ?_ GE317.out) | exact HB.out))) : w.heap.size ≤ gb331)); have n8_ := Aside0.mk ((by rw [hg]; exact (below_size (by repeat (first | (with_reducible first | exact HB.out | apply below_alloc | apply pw_below_drewN | apply below_drew1 | refine below_set ?_ GE291.out | refine below_set ?_ GE317.out) | exact HB.out))) : w.heap.size ≤ gb331)); have n9_ := Aside0.mk ((by rw [hg]; exact Nat.ne_of_lt (blk_lt (g := gb291) (o := .cells #[.int .i64 a0_0, .slice A0_1 l0_1.length c0_1, .slice A0_2 l0_2.length c0_2, .slice A0_3 l0_3.length c0_3] 35 (0, 0)) (by (with_reducible repeat (first | refine blk_drewN ?_ _ | refine blk_drew ?_ | refine blk_alloc ?_ _)); exact BK291.out)) : gb291 ≠ gb331)); have n10_ := Aside0.mk ((by rw [hg]; exact Nat.ne_of_gt (blk_lt (g := gb291) (o := .cells #[.int .i64 a0_0, .slice A0_1 l0_1.length c0_1, .slice A0_2 l0_2.length c0_2, .slice A0_3 l0_3.length c0_3] 35 (0, 0)) (by (with_reducible repeat (first | refine blk_drewN ?_ _ | refine blk_drew ?_ | refine blk_alloc ?_ _)); exact BK291.out)) : gb331 ≠ gb291)); have n11_ := Aside0.mk ((by rw [hg]; exact Nat.ne_of_lt (blk_lt (g := gb317) (o := .cells #[.int .i64 x318000_3, .slice Ao71 x318001_3.length co71, .slice Ao72 x318002_3.length co72, .slice Ao73 x318003_3.length co73] 27 (0, 0)) (by (with_reducible repeat (first | refine blk_drewN ?_ _ | refine blk_drew ?_ | refine blk_alloc ?_ _)); exact BK317.out)) : gb317 ≠ gb331)); have n12_ := Aside0.mk ((by rw [hg]; exact Nat.ne_of_gt (blk_lt (g := gb317) (o := .cells #[.int .i64 x318000_3, .slice Ao71 x318001_3.length co71, .slice Ao72 x318002_3.length co72, .slice Ao73 x318003_3.length co73] 27 (0, 0)) (by (with_reducible repeat (first | refine blk_drewN ?_ _ | refine blk_drew ?_ | refine blk_alloc ?_ _)); exact BK317.out)) : gb331 ≠ gb317)); clear HO321; clear HO324; clear HO327; clear BK291; clear BK317; clear HB; have HO321 := n0_; have HO324 := n1_; have HO327 := n2_; have BK291 := n3_; have BK317 := n4_; have HB := n5_; have BK331 := n6_; have GW331 := n7_; have GE331 := n8_; have NB291_331 := n9_; have NB331_291 := n10_; have NB317_331 := n11_; have NB331_317 := n12_; clear n0_ n1_ n2_ n3_ n4_ n5_ n6_ n7_ n8_ n9_ n10_ n11_ n12_; clear hb hbox hg; have hnb76 := NB331_291.out; have hnc76 := NB291_331.out; have hnb77 := NB331_317.out; have hnc77 := NB317_331.out; have hcz78_0 : w75.cell? ⟨gb331, 0, none⟩ = some (.int .i64 0) := (blk_cell BK331.out 0).trans rfl; have hcz78_1 : w75.cell? ⟨gb331, 1, none⟩ = some (.slice none 0 0) := (blk_cell BK331.out 1).trans rfl; have hcz78_2 : w75.cell? ⟨gb331, 2, none⟩ = some (.slice none 0 0) := (blk_cell BK331.out 2).trans rfl; have hcz78_3 : w75.cell? ⟨gb331, 3, none⟩ = some (.slice none 0 0) := (blk_cell BK331.out 3).trans rfl; have hfz78_0 := blk_frozen BK331.out 0; have hfz78_1 := blk_frozen BK331.out 1; have hfz78_2 := blk_frozen BK331.out 2; have hfz78_3 := blk_frozen BK331.out 3; obtain ⟨Ao79, co79, eo79⟩ := Kd.R_slice HO321.out; subst eo79; obtain ⟨Ao80, co80, eo80⟩ := Kd.R_slice HO324.out; subst eo80; obtain ⟨Ao81, co81, eo81⟩ := Kd.R_slice HO327.out; subst eo81; have hcz82_0 : w75.cell? ⟨gb317, 0, none⟩ = some (.int .i64 x318000_3) := (blk_cell BK317.out 0).trans rfl; have hcz82_1 : w75.cell? ⟨gb317, 1, none⟩ = some (.slice Ao71 x318001_3.length co71) := (blk_cell BK317.out 1).trans rfl; have hcz82_2 : w75.cell? ⟨gb317, 2, none⟩ = some (.slice Ao72 x318002_3.length co72) := (blk_cell BK317.out 2).trans rfl; have hcz82_3 : w75.cell? ⟨gb317, 3, none⟩ = some (.slice Ao73 x318003_3.length co73) := (blk_cell BK317.out 3).trans rfl; have hfz82_0 := blk_frozen BK317.out 0; have hfz82_1 := blk_frozen BK317.out 1; have hfz82_2 := blk_frozen BK317.out 2; have hfz82_3 := blk_frozen BK317.out 3; have hcz83_0 : w75.cell? ⟨gb291, 0, none⟩ = some (.int .i64 a0_0) := (blk_cell BK291.out 0).trans rfl; have hcz83_1 : w75.cell? ⟨gb291, 1, none⟩ = some (.slice A0_1 l0_1.length c0_1) := (blk_cell BK291.out 1).trans rfl; have hcz83_2 : w75.cell? ⟨gb291, 2, none⟩ = some (.slice A0_2 l0_2.length c0_2) := (blk_cell BK291.out 2).trans rfl; have hcz83_3 : w75.cell? ⟨gb291, 3, none⟩ = some (.slice A0_3 l0_3.length c0_3) := (blk_cell BK291.out 3).trans rfl; have hfz83_0 := blk_frozen BK291.out 0; have hfz83_1 := blk_frozen BK291.out 1; have hfz83_2 := blk_frozen BK291.out 2; have hfz83_3 := blk_frozen BK291.out 3; have p332 : 0 ≤ (x9_3 : Int) := of_decide_eq_true (by first | (with_reducible assumption) | assumption); have q332 : x9_3 < (l0_1.length : Int) := of_decide_eq_true (by first | (with_reducible assumption) | assumption); obtain ⟨ad332, e332, hx332_0⟩ := Kd.at_int HR0_1.out x9_3 p332 q332; cases e332; have hn332_0 : ad332.block ≠ gb331 := Nat.ne_of_lt (Nat.lt_of_lt_of_le (by have := World.block_lt_of_cell? _ _ hx332_0; first | rwa [add_block] at this | exact this) GW331.out); have hn332_1 : ad332.block ≠ gb331 := Nat.ne_of_lt (Nat.lt_of_lt_of_le (by have := World.block_lt_of_cell? _ _ hx332_0; first | rwa [add_block] at this | exact this) GW331.out); have hn332_2 : ad332.block ≠ gb331 := Nat.ne_of_lt (Nat.lt_of_lt_of_le (by have := World.block_lt_of_cell? _ _ hx332_0; first | rwa [add_block] at this | exact this) GW331.out); have hn332_3 : ad332.block ≠ gb331 := Nat.ne_of_lt (Nat.lt_of_lt_of_le (by have := World.block_lt_of_cell? _ _ hx332_0; first | rwa [add_block] at this | exact this) GW331.out); have hn332_4 : ad332.block ≠ gb317 := Nat.ne_of_lt (Nat.lt_of_lt_of_le (by have := World.block_lt_of_cell? _ _ hx332_0; first | rwa [add_block] at this | exact this) GW317.out); have hn332_5 : ad332.block ≠ gb317 := Nat.ne_of_lt (Nat.lt_of_lt_of_le (by have := World.block_lt_of_cell? _ _ hx332_0; first | rwa [add_block] at this | exact this) GW317.out); have hn332_6 : ad332.block ≠ gb317 := Nat.ne_of_lt (Nat.lt_of_lt_of_le (by have := World.block_lt_of_cell? _ _ hx332_0; first | rwa [add_block] at this | exact this) GW317.out); have hn332_7 : ad332.block ≠ gb317 := Nat.ne_of_lt (Nat.lt_of_lt_of_le (by have := World.block_lt_of_cell? _ _ hx332_0; first | rwa [add_block] at this | exact this) GW317.out); replace hx332_0 := (HB.out.cell (World.block_lt_of_cell? w _ hx332_0)).trans hx332_0; replace hx332_0 := (cell_far (p := ⟨gb331, 0, none⟩) (by first | (rw [add_block]; exact hn332_0) | (show (Addr.add _ _).block ≠ _; rw [add_block]; exact hn332_0) | exact hn332_0) (.int .i64 t318)).trans hx332_0; replace hx332_0 := (cell_far (p := ⟨gb331, 1, none⟩) (by first | (rw [add_block]; exact hn332_1) | (show (Addr.add _ _).block ≠ _; rw [add_block]; exact hn332_1) | exact hn332_1) (.slice Ao79 t319.length co79)).trans hx332_0; replace hx332_0 := (cell_far (p := ⟨gb331, 2, none⟩) (by first | (rw [add_block]; exact hn332_2) | (show (Addr.add _ _).block ≠ _; rw [add_block]; exact hn332_2) | exact hn332_2) (.slice Ao80 t322.length co80)).trans hx332_0; replace hx332_0 := (cell_far (p := ⟨gb331, 3, none⟩) (by first | (rw [add_block]; exact hn332_3) | (show (Addr.add _ _).block ≠ _; rw [add_block]; exact hn332_3) | exact hn332_3) (.slice Ao81 t325.length co81)).trans hx332_0; replace hx332_0 := (cell_far (p := ⟨gb317, 0, none⟩) (by first | (rw [add_block]; exact hn332_4) | (show (Addr.add _ _).block ≠ _; rw [add_block]; exact hn332_4) | exact hn332_4) (.int .i64 t318)).trans hx332_0; replace hx332_0 := (cell_far (p := ⟨gb317, 1, none⟩) (by first | (rw [add_block]; exact hn332_5) | (show (Addr.add _ _).block ≠ _; rw [add_block]; exact hn332_5) | exact hn332_5) (.slice Ao79 t319.length co79)).trans hx332_0; replace hx332_0 := (cell_far (p := ⟨gb317, 2, none⟩) (by first | (rw [add_block]; exact hn332_6) | (show (Addr.add _ _).block ≠ _; rw [add_block]; exact hn332_6) | exact hn332_6) (.slice Ao80 t322.length co80)).trans hx332_0; replace hx332_0 := (cell_far (p := ⟨gb317, 3, none⟩) (by first | (rw [add_block]; exact hn332_7) | (show (Addr.add _ _).block ≠ _; rw [add_block]; exact hn332_7) | exact hn332_7) (.slice Ao81 t325.length co81)).trans hx332_0; clear hn332_0; clear hn332_1; clear hn332_2; clear hn332_3; clear hn332_4; clear hn332_5; clear hn332_6; clear hn332_7; replace p332 := eq_true p332; replace q332 := eq_true q332))
                            go_ret
                            exact ⟨by first | rfl | (simp [errW_none, errW_some] <;> rfl) | (simp [*, errW_none, errW_some] <;> rfl), by repeat (first | (with_reducible first | exact HB.out | apply below_alloc | apply pw_below_drewN | apply below_drew1 | refine below_set ?_ GE291.out | refine below_set ?_ GE317.out | refine below_set ?_ GE331.out) | exact HB.out)⟩
                        · rw [if_neg c50] at H
                          have c50b0 : (t329 == 0) = false := beq_eq_false_iff_ne.mpr c50
                          have c50b1 : (t329 != 0) = true := bne_iff_ne.mpr c50
                          obtain rfl := Option.some.inj H
                          have hnb84 := NB291_317.out
                          have hnc84 := NB317_291.out
                          have hcz85_0 : wr.cell? ⟨gb291, 0, none⟩ = some (.int .i64 a0_0) := (blk_cell BK291.out 0).trans rfl
                          have hcz85_1 : wr.cell? ⟨gb291, 1, none⟩ = some (.slice A0_1 l0_1.length c0_1) := (blk_cell BK291.out 1).trans rfl
                          have hcz85_2 : wr.cell? ⟨gb291, 2, none⟩ = some (.slice A0_2 l0_2.length c0_2) := (blk_cell BK291.out 2).trans rfl
                          have hcz85_3 : wr.cell? ⟨gb291, 3, none⟩ = some (.slice A0_3 l0_3.length c0_3) := (blk_cell BK291.out 3).trans rfl
                          have hfz85_0 := blk_frozen BK291.out 0
                          have hfz85_1 := blk_frozen BK291.out 1
                          have hfz85_2 := blk_frozen BK291.out 2
                          have hfz85_3 := blk_frozen BK291.out 3
                          have hcz86_0 : wr.cell? ⟨gb317, 0, none⟩ = some (.int .i64 x318000_3) := (blk_cell BK317.out 0).trans rfl
                          have hcz86_1 : wr.cell? ⟨gb317, 1, none⟩ = some (u318001) := (blk_cell BK317.out 1).trans rfl
                          have hcz86_2 : wr.cell? ⟨gb317, 2, none⟩ = some (u318002) := (blk_cell BK317.out 2).trans rfl
                          have hcz86_3 : wr.cell? ⟨gb317, 3, none⟩ = some (u318003) := (blk_cell BK317.out 3).trans rfl
                          have hfz86_0 := blk_frozen BK317.out 0
                          have hfz86_1 := blk_frozen BK317.out 1
                          have hfz86_2 := blk_frozen BK317.out 2
                          have hfz86_3 := blk_frozen BK317.out 3
                          obtain ⟨Ao87, co87, eo87⟩ := Kd.R_slice HO_318001.out
                          subst eo87
                          obtain ⟨Ao88, co88, eo88⟩ := Kd.R_slice HO_318002.out
                          subst eo88
                          obtain ⟨Ao89, co89, eo89⟩ := Kd.R_slice HO_318003.out
                          subst eo89
                          go_wp2_with (first | ((with_reducible refine gate_callee (f := 16) rfl ?_); refine goesL_ (some 65) rfl rfl Try.func16 (by kernel_rfl) rfl #[.agg #[.int .i64 x318000_3, .slice Ao87 x318001_3.length co87, .slice Ao88 x318002_3.length co88, .slice Ao89 x318003_3.length co89], .int .i64 1000] rfl (by (try simp only [List.map_toArray, List.map_cons, List.map_nil]); first | done | rfl | (simp only [List.length_drop, List.length_take]; rfl)) ?_; (with_reducible refine (box_Recv.calls k3 x318000_3 (fun k_ => some k_ = (.slice Ao87 x318001_3.length co87 : Value).ownBlock) (.slice Ao87 x318001_3.length co87) x318001_3 (fun k_ => some k_ = (.slice Ao88 x318002_3.length co88 : Value).ownBlock) (.slice Ao88 x318002_3.length co88) x318002_3 (fun k_ => some k_ = (.slice Ao89 x318003_3.length co89 : Value).ownBlock) (.slice Ao89 x318003_3.length co89) x318003_3 1000 t318 t319 t322 t325 t328 t329 t330 w _ ?side1 ?side2 ?side3 ?side4 A47.out).mono ?_); (case side1 => repeat (first | (with_reducible first | exact HB.out | apply below_alloc | apply pw_below_drewN | apply below_drew1 | refine below_set ?_ GE291.out | refine below_set ?_ GE317.out) | exact HB.out)); (case side2 => exact Kd.R_tight rfl HO_318001.out); (case side3 => exact Kd.R_tight rfl HO_318002.out); (case side4 => exact Kd.R_tight rfl HO_318003.out); rintro e w90 ⟨v320, v323, v326, rfl, ho0, ho1, ho2, hb, hkp⟩; refine ⟨_, rfl, ?_⟩; have n0_ := Aside0.mk (blk_kept (by (with_reducible repeat (first | refine blk_drewN ?_ _ | refine blk_drew ?_ | refine blk_alloc ?_ _)); exact BK291.out) hkp (fun hs_ => Or.elim hs_ (fun e_ => (fun e_ => (Kd.R_ne HO_318001.out BK291.out (by decide)) e_) e_) (fun e_ => Or.elim e_ (fun e_ => (fun e_ => (Kd.R_ne HO_318002.out BK291.out (by decide)) e_) e_) (fun e_ => (fun e_ => (Kd.R_ne HO_318003.out BK291.out (by decide)) e_) e_)))); have n1_ := Aside0.mk (blk_kept (by (with_reducible repeat (first | refine blk_drewN ?_ _ | refine blk_drew ?_ | refine blk_alloc ?_ _)); exact BK317.out) hkp (fun hs_ => Or.elim hs_ (fun e_ => (fun e_ => (Kd.R_ne HO_318001.out BK317.out (by decide)) e_) e_) (fun e_ => Or.elim e_ (fun e_ => (fun e_ => (Kd.R_ne HO_318002.out BK317.out (by decide)) e_) e_) (fun e_ => (fun e_ => (Kd.R_ne HO_318003.out BK317.out (by decide)) e_) e_)))); have n2_ := Aside0.mk (Kd.R_mono (ok' := fun k_ => True) ho0 (fun k_ hk_ => trivial)); have n3_ := Aside0.mk (Kd.R_mono (ok' := fun k_ => True) ho1 (fun k_ hk_ => trivial)); have n4_ := Aside0.mk (Kd.R_mono (ok' := fun k_ => True) ho2 (fun k_ hk_ => trivial)); have n5_ := Aside0.mk (hb); clear BK291; clear BK317; clear HB; clear HO_318001; clear HO_318002; clear HO_318003; have BK291 := n0_; have BK317 := n1_; have HO321 := n2_; have HO324 := n3_; have HO327 := n4_; have HB := n5_; clear n0_ n1_ n2_ n3_ n4_ n5_; (try clear hb); (try clear hkp); (try clear ho0); (try clear ho1); (try clear ho2)) | ((with_reducible refine gate_dst (N := 10) rfl ?_); (try (refine gate_guard (by rfl) ?_; dsimp only)); refine box_event ?hg (N := 10) ?hd (cs := #[.int .i64 0, .slice none 0 0, .slice none 0 0, .slice none 0 0]) (t := 27) ?hr ?_; (case hd => rfl); (case hg => rfl); (case hr => first | (go_simp; done) | (go_simp; rfl)); intro gb331 hg w91 hbox hb; have n0_ := Aside0.mk (Kd.R_below (by (with_reducible repeat (first | apply Kd.R_alloc | apply Kd.R_drewN | apply Kd.R_drew)); exact HO321.out) hb); have n1_ := Aside0.mk (Kd.R_below (by (with_reducible repeat (first | apply Kd.R_alloc | apply Kd.R_drewN | apply Kd.R_drew)); exact HO324.out) hb); have n2_ := Aside0.mk (Kd.R_below (by (with_reducible repeat (first | apply Kd.R_alloc | apply Kd.R_drewN | apply Kd.R_drew)); exact HO327.out) hb); have n3_ := Aside0.mk (blk_below (g := gb291) (o := .cells #[.int .i64 a0_0, .slice A0_1 l0_1.length c0_1, .slice A0_2 l0_2.length c0_2, .slice A0_3 l0_3.length c0_3] 35 (0, 0)) (by (with_reducible repeat (first | refine blk_drewN ?_ _ | refine blk_drew ?_ | refine blk_alloc ?_ _)); exact BK291.out) hb); have n4_ := Aside0.mk (blk_below (g := gb317) (o := .cells #[.int .i64 x318000_3, .slice Ao87 x318001_3.length co87, .slice Ao88 x318002_3.length co88, .slice Ao89 x318003_3.length co89] 27 (0, 0)) (by (with_reducible repeat (first | refine blk_drewN ?_ _ | refine blk_drew ?_ | refine blk_alloc ?_ _)); exact BK317.out) hb); have n5_ := Aside0.mk (below_step (by repeat (first | (with_reducible first | exact HB.out | apply below_alloc | apply pw_below_drewN | apply below_drew1 | refine below_set ?_ GE291.out | refine below_set ?_ GE317.out) | exact HB.out)) hb); have n6_ := Aside0.mk (hbox); have n7_ := Aside0.mk ((by rw [hg]; exact (below_size (by repeat (first | (with_reducible first | exact HB.out | apply below_alloc | apply pw_below_drewN | apply below_drew1 | refine below_set ?_ GE291.out | refine below_set ?_ GE317.out) | exact HB.out))) : w.heap.size ≤ gb331)); have n8_ := Aside0.mk ((by rw [hg]; exact (below_size (by repeat (first | (with_reducible first | exact HB.out | apply below_alloc | apply pw_below_drewN | apply below_drew1 | refine below_set ?_ GE291.out | refine below_set ?_ GE317.out) | exact HB.out))) : w.heap.size ≤ gb331)); have n9_ := Aside0.mk ((by rw [hg]; exact Nat.ne_of_lt (blk_lt (g := gb291) (o := .cells #[.int .i64 a0_0, .slice A0_1 l0_1.length c0_1, .slice A0_2 l0_2.length c0_2, .slice A0_3 l0_3.length c0_3] 35 (0, 0)) (by (with_reducible repeat (first | refine blk_drewN ?_ _ | refine blk_drew ?_ | refine blk_alloc ?_ _)); exact BK291.out)) : gb291 ≠ gb331)); have n10_ := Aside0.mk ((by rw [hg]; exact Nat.ne_of_gt (blk_lt (g := gb291) (o := .cells #[.int .i64 a0_0, .slice A0_1 l0_1.length c0_1, .slice A0_2 l0_2.length c0_2, .slice A0_3 l0_3.length c0_3] 35 (0, 0)) (by (with_reducible repeat (first | refine blk_drewN ?_ _ | refine blk_drew ?_ | refine blk_alloc ?_ _)); exact BK291.out)) : gb331 ≠ gb291)); have n11_ := Aside0.mk ((by rw [hg]; exact Nat.ne_of_lt (blk_lt (g := gb317) (o := .cells #[.int .i64 x318000_3, .slice Ao87 x318001_3.length co87, .slice Ao88 x318002_3.length co88, .slice Ao89 x318003_3.length co89] 27 (0, 0)) (by (with_reducible repeat (first | refine blk_drewN ?_ _ | refine blk_drew ?_ | refine blk_alloc ?_ _)); exact BK317.out)) : gb317 ≠ gb331)); have n12_ := Aside0.mk ((by rw [hg]; exact Nat.ne_of_gt (blk_lt (g := gb317) (o := .cells #[.int .i64 x318000_3, .slice Ao87 x318001_3.length co87, .slice Ao88 x318002_3.length co88, .slice Ao89 x318003_3.length co89] 27 (0, 0)) (by (with_reducible repeat (first | refine blk_drewN ?_ _ | refine blk_drew ?_ | refine blk_alloc ?_ _)); exact BK317.out)) : gb331 ≠ gb317)); clear HO321; clear HO324; clear HO327; clear BK291; clear BK317; clear HB; have HO321 := n0_; have HO324 := n1_; have HO327 := n2_; have BK291 := n3_; have BK317 := n4_; have HB := n5_; have BK331 := n6_; have GW331 := n7_; have GE331 := n8_; have NB291_331 := n9_; have NB331_291 := n10_; have NB317_331 := n11_; have NB331_317 := n12_; clear n0_ n1_ n2_ n3_ n4_ n5_ n6_ n7_ n8_ n9_ n10_ n11_ n12_; clear hb hbox hg; have hnb92 := NB331_291.out; have hnc92 := NB291_331.out; have hnb93 := NB331_317.out; have hnc93 := NB317_331.out; have hcz94_0 : w91.cell? ⟨gb331, 0, none⟩ = some (.int .i64 0) := (blk_cell BK331.out 0).trans rfl; have hcz94_1 : w91.cell? ⟨gb331, 1, none⟩ = some (.slice none 0 0) := (blk_cell BK331.out 1).trans rfl; have hcz94_2 : w91.cell? ⟨gb331, 2, none⟩ = some (.slice none 0 0) := (blk_cell BK331.out 2).trans rfl; have hcz94_3 : w91.cell? ⟨gb331, 3, none⟩ = some (.slice none 0 0) := (blk_cell BK331.out 3).trans rfl; have hfz94_0 := blk_frozen BK331.out 0; have hfz94_1 := blk_frozen BK331.out 1; have hfz94_2 := blk_frozen BK331.out 2; have hfz94_3 := blk_frozen BK331.out 3; obtain ⟨Ao95, co95, eo95⟩ := Kd.R_slice HO321.out; subst eo95; obtain ⟨Ao96, co96, eo96⟩ := Kd.R_slice HO324.out; subst eo96; obtain ⟨Ao97, co97, eo97⟩ := Kd.R_slice HO327.out; subst eo97; have hcz98_0 : w91.cell? ⟨gb317, 0, none⟩ = some (.int .i64 x318000_3) := (blk_cell BK317.out 0).trans rfl; have hcz98_1 : w91.cell? ⟨gb317, 1, none⟩ = some (.slice Ao87 x318001_3.length co87) := (blk_cell BK317.out 1).trans rfl; have hcz98_2 : w91.cell? ⟨gb317, 2, none⟩ = some (.slice Ao88 x318002_3.length co88) := (blk_cell BK317.out 2).trans rfl; have hcz98_3 : w91.cell? ⟨gb317, 3, none⟩ = some (.slice Ao89 x318003_3.length co89) := (blk_cell BK317.out 3).trans rfl; have hfz98_0 := blk_frozen BK317.out 0; have hfz98_1 := blk_frozen BK317.out 1; have hfz98_2 := blk_frozen BK317.out 2; have hfz98_3 := blk_frozen BK317.out 3; have hcz99_0 : w91.cell? ⟨gb291, 0, none⟩ = some (.int .i64 a0_0) := (blk_cell BK291.out 0).trans rfl; have hcz99_1 : w91.cell? ⟨gb291, 1, none⟩ = some (.slice A0_1 l0_1.length c0_1) := (blk_cell BK291.out 1).trans rfl; have hcz99_2 : w91.cell? ⟨gb291, 2, none⟩ = some (.slice A0_2 l0_2.length c0_2) := (blk_cell BK291.out 2).trans rfl; have hcz99_3 : w91.cell? ⟨gb291, 3, none⟩ = some (.slice A0_3 l0_3.length c0_3) := (blk_cell BK291.out 3).trans rfl; have hfz99_0 := blk_frozen BK291.out 0; have hfz99_1 := blk_frozen BK291.out 1; have hfz99_2 := blk_frozen BK291.out 2; have hfz99_3 := blk_frozen BK291.out 3; have p332 : 0 ≤ (x9_3 : Int) := of_decide_eq_true (by first | (with_reducible assumption) | assumption); have q332 : x9_3 < (l0_1.length : Int) := of_decide_eq_true (by first | (with_reducible assumption) | assumption); obtain ⟨ad332, e332, hx332_0⟩ := Kd.at_int HR0_1.out x9_3 p332 q332; cases e332; have hn332_0 : ad332.block ≠ gb331 := Nat.ne_of_lt (Nat.lt_of_lt_of_le (by have := World.block_lt_of_cell? _ _ hx332_0; first | rwa [add_block] at this | exact this) GW331.out); have hn332_1 : ad332.block ≠ gb331 := Nat.ne_of_lt (Nat.lt_of_lt_of_le (by have := World.block_lt_of_cell? _ _ hx332_0; first | rwa [add_block] at this | exact this) GW331.out); have hn332_2 : ad332.block ≠ gb331 := Nat.ne_of_lt (Nat.lt_of_lt_of_le (by have := World.block_lt_of_cell? _ _ hx332_0; first | rwa [add_block] at this | exact this) GW331.out); have hn332_3 : ad332.block ≠ gb331 := Nat.ne_of_lt (Nat.lt_of_lt_of_le (by have := World.block_lt_of_cell? _ _ hx332_0; first | rwa [add_block] at this | exact this) GW331.out); have hn332_4 : ad332.block ≠ gb317 := Nat.ne_of_lt (Nat.lt_of_lt_of_le (by have := World.block_lt_of_cell? _ _ hx332_0; first | rwa [add_block] at this | exact this) GW317.out); have hn332_5 : ad332.block ≠ gb317 := Nat.ne_of_lt (Nat.lt_of_lt_of_le (by have := World.block_lt_of_cell? _ _ hx332_0; first | rwa [add_block] at this | exact this) GW317.out); have hn332_6 : ad332.block ≠ gb317 := Nat.ne_of_lt (Nat.lt_of_lt_of_le (by have := World.block_lt_of_cell? _ _ hx332_0; first | rwa [add_block] at this | exact this) GW317.out); have hn332_7 : ad332.block ≠ gb317 := Nat.ne_of_lt (Nat.lt_of_lt_of_le (by have := World.block_lt_of_cell? _ _ hx332_0; first | rwa [add_block] at this | exact this) GW317.out); replace hx332_0 := (HB.out.cell (World.block_lt_of_cell? w _ hx332_0)).trans hx332_0; replace hx332_0 := (cell_far (p := ⟨gb331, 0, none⟩) (by first | (rw [add_block]; exact hn332_0) | (show (Addr.add _ _).block ≠ _; rw [add_block]; exact hn332_0) | exact hn332_0) (.int .i64 t318)).trans hx332_0; replace hx332_0 := (cell_far (p := ⟨gb331, 1, none⟩) (by first | (rw [add_block]; exact hn332_1) | (show (Addr.add _ _).block ≠ _; rw [add_block]; exact hn332_1) | exact hn332_1) (.slice Ao95 t319.length co95)).trans hx332_0; replace hx332_0 := (cell_far (p := ⟨gb331, 2, none⟩) (by first | (rw [add_block]; exact hn332_2) | (show (Addr.add _ _).block ≠ _; rw [add_block]; exact hn332_2) | exact hn332_2) (.slice Ao96 t322.length co96)).trans hx332_0; replace hx332_0 := (cell_far (p := ⟨gb331, 3, none⟩) (by first | (rw [add_block]; exact hn332_3) | (show (Addr.add _ _).block ≠ _; rw [add_block]; exact hn332_3) | exact hn332_3) (.slice Ao97 t325.length co97)).trans hx332_0; replace hx332_0 := (cell_far (p := ⟨gb317, 0, none⟩) (by first | (rw [add_block]; exact hn332_4) | (show (Addr.add _ _).block ≠ _; rw [add_block]; exact hn332_4) | exact hn332_4) (.int .i64 t318)).trans hx332_0; replace hx332_0 := (cell_far (p := ⟨gb317, 1, none⟩) (by first | (rw [add_block]; exact hn332_5) | (show (Addr.add _ _).block ≠ _; rw [add_block]; exact hn332_5) | exact hn332_5) (.slice Ao95 t319.length co95)).trans hx332_0; replace hx332_0 := (cell_far (p := ⟨gb317, 2, none⟩) (by first | (rw [add_block]; exact hn332_6) | (show (Addr.add _ _).block ≠ _; rw [add_block]; exact hn332_6) | exact hn332_6) (.slice Ao96 t322.length co96)).trans hx332_0; replace hx332_0 := (cell_far (p := ⟨gb317, 3, none⟩) (by first | (rw [add_block]; exact hn332_7) | (show (Addr.add _ _).block ≠ _; rw [add_block]; exact hn332_7) | exact hn332_7) (.slice Ao97 t325.length co97)).trans hx332_0; clear hn332_0; clear hn332_1; clear hn332_2; clear hn332_3; clear hn332_4; clear hn332_5; clear hn332_6; clear hn332_7; replace p332 := eq_true p332; replace q332 := eq_true q332))
                          go_ret
                          exact ⟨by first | rfl | (simp [errW_none, errW_some] <;> rfl) | (simp [*, errW_none, errW_some] <;> rfl), by repeat (first | (with_reducible first | exact HB.out | apply below_alloc | apply pw_below_drewN | apply below_drew1 | refine below_set ?_ GE291.out | refine below_set ?_ GE317.out | refine below_set ?_ GE331.out) | exact HB.out)⟩
                      · rw [if_neg c49] at H
                        have c49b0 : (t328 == (rd l0_1 x9_3)) = false := beq_eq_false_iff_ne.mpr c49
                        have c49b1 : (t328 != (rd l0_1 x9_3)) = true := bne_iff_ne.mpr c49
                        obtain rfl := Option.some.inj H
                        have hnb100 := NB291_317.out
                        have hnc100 := NB317_291.out
                        have hcz101_0 : wr.cell? ⟨gb291, 0, none⟩ = some (.int .i64 a0_0) := (blk_cell BK291.out 0).trans rfl
                        have hcz101_1 : wr.cell? ⟨gb291, 1, none⟩ = some (.slice A0_1 l0_1.length c0_1) := (blk_cell BK291.out 1).trans rfl
                        have hcz101_2 : wr.cell? ⟨gb291, 2, none⟩ = some (.slice A0_2 l0_2.length c0_2) := (blk_cell BK291.out 2).trans rfl
                        have hcz101_3 : wr.cell? ⟨gb291, 3, none⟩ = some (.slice A0_3 l0_3.length c0_3) := (blk_cell BK291.out 3).trans rfl
                        have hfz101_0 := blk_frozen BK291.out 0
                        have hfz101_1 := blk_frozen BK291.out 1
                        have hfz101_2 := blk_frozen BK291.out 2
                        have hfz101_3 := blk_frozen BK291.out 3
                        have hcz102_0 : wr.cell? ⟨gb317, 0, none⟩ = some (.int .i64 x318000_3) := (blk_cell BK317.out 0).trans rfl
                        have hcz102_1 : wr.cell? ⟨gb317, 1, none⟩ = some (u318001) := (blk_cell BK317.out 1).trans rfl
                        have hcz102_2 : wr.cell? ⟨gb317, 2, none⟩ = some (u318002) := (blk_cell BK317.out 2).trans rfl
                        have hcz102_3 : wr.cell? ⟨gb317, 3, none⟩ = some (u318003) := (blk_cell BK317.out 3).trans rfl
                        have hfz102_0 := blk_frozen BK317.out 0
                        have hfz102_1 := blk_frozen BK317.out 1
                        have hfz102_2 := blk_frozen BK317.out 2
                        have hfz102_3 := blk_frozen BK317.out 3
                        obtain ⟨Ao103, co103, eo103⟩ := Kd.R_slice HO_318001.out
                        subst eo103
                        obtain ⟨Ao104, co104, eo104⟩ := Kd.R_slice HO_318002.out
                        subst eo104
                        obtain ⟨Ao105, co105, eo105⟩ := Kd.R_slice HO_318003.out
                        subst eo105
                        go_wp2_with (first | ((with_reducible refine gate_callee (f := 16) rfl ?_); refine goesL_ (some 65) rfl rfl Try.func16 (by kernel_rfl) rfl #[.agg #[.int .i64 x318000_3, .slice Ao103 x318001_3.length co103, .slice Ao104 x318002_3.length co104, .slice Ao105 x318003_3.length co105], .int .i64 1000] rfl (by (try simp only [List.map_toArray, List.map_cons, List.map_nil]); first | done | rfl | (simp only [List.length_drop, List.length_take]; rfl)) ?_; (with_reducible refine (box_Recv.calls k3 x318000_3 (fun k_ => some k_ = (.slice Ao103 x318001_3.length co103 : Value).ownBlock) (.slice Ao103 x318001_3.length co103) x318001_3 (fun k_ => some k_ = (.slice Ao104 x318002_3.length co104 : Value).ownBlock) (.slice Ao104 x318002_3.length co104) x318002_3 (fun k_ => some k_ = (.slice Ao105 x318003_3.length co105 : Value).ownBlock) (.slice Ao105 x318003_3.length co105) x318003_3 1000 t318 t319 t322 t325 t328 t329 t330 w _ ?side1 ?side2 ?side3 ?side4 A47.out).mono ?_); (case side1 => repeat (first | (with_reducible first | exact HB.out | apply below_alloc | apply pw_below_drewN | apply below_drew1 | refine below_set ?_ GE291.out | refine below_set ?_ GE317.out) | exact HB.out)); (case side2 => exact Kd.R_tight rfl HO_318001.out); (case side3 => exact Kd.R_tight rfl HO_318002.out); (case side4 => exact Kd.R_tight rfl HO_318003.out); rintro e w106 ⟨v320, v323, v326, rfl, ho0, ho1, ho2, hb, hkp⟩; refine ⟨_, rfl, ?_⟩; have n0_ := Aside0.mk (blk_kept (by (with_reducible repeat (first | refine blk_drewN ?_ _ | refine blk_drew ?_ | refine blk_alloc ?_ _)); exact BK291.out) hkp (fun hs_ => Or.elim hs_ (fun e_ => (fun e_ => (Kd.R_ne HO_318001.out BK291.out (by decide)) e_) e_) (fun e_ => Or.elim e_ (fun e_ => (fun e_ => (Kd.R_ne HO_318002.out BK291.out (by decide)) e_) e_) (fun e_ => (fun e_ => (Kd.R_ne HO_318003.out BK291.out (by decide)) e_) e_)))); have n1_ := Aside0.mk (blk_kept (by (with_reducible repeat (first | refine blk_drewN ?_ _ | refine blk_drew ?_ | refine blk_alloc ?_ _)); exact BK317.out) hkp (fun hs_ => Or.elim hs_ (fun e_ => (fun e_ => (Kd.R_ne HO_318001.out BK317.out (by decide)) e_) e_) (fun e_ => Or.elim e_ (fun e_ => (fun e_ => (Kd.R_ne HO_318002.out BK317.out (by decide)) e_) e_) (fun e_ => (fun e_ => (Kd.R_ne HO_318003.out BK317.out (by decide)) e_) e_)))); have n2_ := Aside0.mk (Kd.R_mono (ok' := fun k_ => True) ho0 (fun k_ hk_ => trivial)); have n3_ := Aside0.mk (Kd.R_mono (ok' := fun k_ => True) ho1 (fun k_ hk_ => trivial)); have n4_ := Aside0.mk (Kd.R_mono (ok' := fun k_ => True) ho2 (fun k_ hk_ => trivial)); have n5_ := Aside0.mk (hb); clear BK291; clear BK317; clear HB; clear HO_318001; clear HO_318002; clear HO_318003; have BK291 := n0_; have BK317 := n1_; have HO321 := n2_; have HO324 := n3_; have HO327 := n4_; have HB := n5_; clear n0_ n1_ n2_ n3_ n4_ n5_; (try clear hb); (try clear hkp); (try clear ho0); (try clear ho1); (try clear ho2)) | ((with_reducible refine gate_dst (N := 10) rfl ?_); (try (refine gate_guard (by rfl) ?_; dsimp only)); refine box_event ?hg (N := 10) ?hd (cs := #[.int .i64 0, .slice none 0 0, .slice none 0 0, .slice none 0 0]) (t := 27) ?hr ?_; (case hd => rfl); (case hg => rfl); (case hr => first | (go_simp; done) | (go_simp; rfl)); intro gb331 hg w107 hbox hb; have n0_ := Aside0.mk (Kd.R_below (by (with_reducible repeat (first | apply Kd.R_alloc | apply Kd.R_drewN | apply Kd.R_drew)); exact HO321.out) hb); have n1_ := Aside0.mk (Kd.R_below (by (with_reducible repeat (first | apply Kd.R_alloc | apply Kd.R_drewN | apply Kd.R_drew)); exact HO324.out) hb); have n2_ := Aside0.mk (Kd.R_below (by (with_reducible repeat (first | apply Kd.R_alloc | apply Kd.R_drewN | apply Kd.R_drew)); exact HO327.out) hb); have n3_ := Aside0.mk (blk_below (g := gb291) (o := .cells #[.int .i64 a0_0, .slice A0_1 l0_1.length c0_1, .slice A0_2 l0_2.length c0_2, .slice A0_3 l0_3.length c0_3] 35 (0, 0)) (by (with_reducible repeat (first | refine blk_drewN ?_ _ | refine blk_drew ?_ | refine blk_alloc ?_ _)); exact BK291.out) hb); have n4_ := Aside0.mk (blk_below (g := gb317) (o := .cells #[.int .i64 x318000_3, .slice Ao103 x318001_3.length co103, .slice Ao104 x318002_3.length co104, .slice Ao105 x318003_3.length co105] 27 (0, 0)) (by (with_reducible repeat (first | refine blk_drewN ?_ _ | refine blk_drew ?_ | refine blk_alloc ?_ _)); exact BK317.out) hb); have n5_ := Aside0.mk (below_step (by repeat (first | (with_reducible first | exact HB.out | apply below_alloc | apply pw_below_drewN | apply below_drew1 | refine below_set ?_ GE291.out | refine below_set ?_ GE317.out) | exact HB.out)) hb); have n6_ := Aside0.mk (hbox); have n7_ := Aside0.mk ((by rw [hg]; exact (below_size (by repeat (first | (with_reducible first | exact HB.out | apply below_alloc | apply pw_below_drewN | apply below_drew1 | refine below_set ?_ GE291.out | refine below_set ?_ GE317.out) | exact HB.out))) : w.heap.size ≤ gb331)); have n8_ := Aside0.mk ((by rw [hg]; exact (below_size (by repeat (first | (with_reducible first | exact HB.out | apply below_alloc | apply pw_below_drewN | apply below_drew1 | refine below_set ?_ GE291.out | refine below_set ?_ GE317.out) | exact HB.out))) : w.heap.size ≤ gb331)); have n9_ := Aside0.mk ((by rw [hg]; exact Nat.ne_of_lt (blk_lt (g := gb291) (o := .cells #[.int .i64 a0_0, .slice A0_1 l0_1.length c0_1, .slice A0_2 l0_2.length c0_2, .slice A0_3 l0_3.length c0_3] 35 (0, 0)) (by (with_reducible repeat (first | refine blk_drewN ?_ _ | refine blk_drew ?_ | refine blk_alloc ?_ _)); exact BK291.out)) : gb291 ≠ gb331)); have n10_ := Aside0.mk ((by rw [hg]; exact Nat.ne_of_gt (blk_lt (g := gb291) (o := .cells #[.int .i64 a0_0, .slice A0_1 l0_1.length c0_1, .slice A0_2 l0_2.length c0_2, .slice A0_3 l0_3.length c0_3] 35 (0, 0)) (by (with_reducible repeat (first | refine blk_drewN ?_ _ | refine blk_drew ?_ | refine blk_alloc ?_ _)); exact BK291.out)) : gb331 ≠ gb291)); have n11_ := Aside0.mk ((by rw [hg]; exact Nat.ne_of_lt (blk_lt (g := gb317) (o := .cells #[.int .i64 x318000_3, .slice Ao103 x318001_3.length co103, .slice Ao104 x318002_3.length co104, .slice Ao105 x318003_3.length co105] 27 (0, 0)) (by (with_reducible repeat (first | refine blk_drewN ?_ _ | refine blk_drew ?_ | refine blk_alloc ?_ _)); exact BK317.out)) : gb317 ≠ gb331)); have n12_ := Aside0.mk ((by rw [hg]; exact Nat.ne_of_gt (blk_lt (g := gb317) (o := .cells #[.int .i64 x318000_3, .slice Ao103 x318001_3.length co103, .slice Ao104 x318002_3.length co104, .slice Ao105 x318003_3.length co105] 27 (0, 0)) (by (with_reducible repeat (first | refine blk_drewN ?_ _ | refine blk_drew ?_ | refine blk_alloc ?_ _)); exact BK317.out)) : gb331 ≠ gb317)); clear HO321; clear HO324; clear HO327; clear BK291; clear BK317; clear HB; have HO321 := n0_; have HO324 := n1_; have HO327 := n2_; have BK291 := n3_; have BK317 := n4_; have HB := n5_; have BK331 := n6_; have GW331 := n7_; have GE331 := n8_; have NB291_331 := n9_; have NB331_291 := n10_; have NB317_331 := n11_; have NB331_317 := n12_; clear n0_ n1_ n2_ n3_ n4_ n5_ n6_ n7_ n8_ n9_ n10_ n11_ n12_; clear hb hbox hg; have hnb108 := NB331_291.out; have hnc108 := NB291_331.out; have hnb109 := NB331_317.out; have hnc109 := NB317_331.out; have hcz110_0 : w107.cell? ⟨gb331, 0, none⟩ = some (.int .i64 0) := (blk_cell BK331.out 0).trans rfl; have hcz110_1 : w107.cell? ⟨gb331, 1, none⟩ = some (.slice none 0 0) := (blk_cell BK331.out 1).trans rfl; have hcz110_2 : w107.cell? ⟨gb331, 2, none⟩ = some (.slice none 0 0) := (blk_cell BK331.out 2).trans rfl; have hcz110_3 : w107.cell? ⟨gb331, 3, none⟩ = some (.slice none 0 0) := (blk_cell BK331.out 3).trans rfl; have hfz110_0 := blk_frozen BK331.out 0; have hfz110_1 := blk_frozen BK331.out 1; have hfz110_2 := blk_frozen BK331.out 2; have hfz110_3 := blk_frozen BK331.out 3; obtain ⟨Ao111, co111, eo111⟩ := Kd.R_slice HO321.out; subst eo111; obtain ⟨Ao112, co112, eo112⟩ := Kd.R_slice HO324.out; subst eo112; obtain ⟨Ao113, co113, eo113⟩ := Kd.R_slice HO327.out; subst eo113; have hcz114_0 : w107.cell? ⟨gb317, 0, none⟩ = some (.int .i64 x318000_3) := (blk_cell BK317.out 0).trans rfl; have hcz114_1 : w107.cell? ⟨gb317, 1, none⟩ = some (.slice Ao103 x318001_3.length co103) := (blk_cell BK317.out 1).trans rfl; have hcz114_2 : w107.cell? ⟨gb317, 2, none⟩ = some (.slice Ao104 x318002_3.length co104) := (blk_cell BK317.out 2).trans rfl; have hcz114_3 : w107.cell? ⟨gb317, 3, none⟩ = some (.slice Ao105 x318003_3.length co105) := (blk_cell BK317.out 3).trans rfl; have hfz114_0 := blk_frozen BK317.out 0; have hfz114_1 := blk_frozen BK317.out 1; have hfz114_2 := blk_frozen BK317.out 2; have hfz114_3 := blk_frozen BK317.out 3; have hcz115_0 : w107.cell? ⟨gb291, 0, none⟩ = some (.int .i64 a0_0) := (blk_cell BK291.out 0).trans rfl; have hcz115_1 : w107.cell? ⟨gb291, 1, none⟩ = some (.slice A0_1 l0_1.length c0_1) := (blk_cell BK291.out 1).trans rfl; have hcz115_2 : w107.cell? ⟨gb291, 2, none⟩ = some (.slice A0_2 l0_2.length c0_2) := (blk_cell BK291.out 2).trans rfl; have hcz115_3 : w107.cell? ⟨gb291, 3, none⟩ = some (.slice A0_3 l0_3.length c0_3) := (blk_cell BK291.out 3).trans rfl; have hfz115_0 := blk_frozen BK291.out 0; have hfz115_1 := blk_frozen BK291.out 1; have hfz115_2 := blk_frozen BK291.out 2; have hfz115_3 := blk_frozen BK291.out 3; have p332 : 0 ≤ (x9_3 : Int) := of_decide_eq_true (by first | (with_reducible assumption) | assumption); have q332 : x9_3 < (l0_1.length : Int) := of_decide_eq_true (by first | (with_reducible assumption) | assumption); obtain ⟨ad332, e332, hx332_0⟩ := Kd.at_int HR0_1.out x9_3 p332 q332; cases e332; have hn332_0 : ad332.block ≠ gb331 := Nat.ne_of_lt (Nat.lt_of_lt_of_le (by have := World.block_lt_of_cell? _ _ hx332_0; first | rwa [add_block] at this | exact this) GW331.out); have hn332_1 : ad332.block ≠ gb331 := Nat.ne_of_lt (Nat.lt_of_lt_of_le (by have := World.block_lt_of_cell? _ _ hx332_0; first | rwa [add_block] at this | exact this) GW331.out); have hn332_2 : ad332.block ≠ gb331 := Nat.ne_of_lt (Nat.lt_of_lt_of_le (by have := World.block_lt_of_cell? _ _ hx332_0; first | rwa [add_block] at this | exact this) GW331.out); have hn332_3 : ad332.block ≠ gb331 := Nat.ne_of_lt (Nat.lt_of_lt_of_le (by have := World.block_lt_of_cell? _ _ hx332_0; first | rwa [add_block] at this | exact this) GW331.out); have hn332_4 : ad332.block ≠ gb317 := Nat.ne_of_lt (Nat.lt_of_lt_of_le (by have := World.block_lt_of_cell? _ _ hx332_0; first | rwa [add_block] at this | exact this) GW317.out); have hn332_5 : ad332.block ≠ gb317 := Nat.ne_of_lt (Nat.lt_of_lt_of_le (by have := World.block_lt_of_cell? _ _ hx332_0; first | rwa [add_block] at this | exact this) GW317.out); have hn332_6 : ad332.block ≠ gb317 := Nat.ne_of_lt (Nat.lt_of_lt_of_le (by have := World.block_lt_of_cell? _ _ hx332_0; first | rwa [add_block] at this | exact this) GW317.out); have hn332_7 : ad332.block ≠ gb317 := Nat.ne_of_lt (Nat.lt_of_lt_of_le (by have := World.block_lt_of_cell? _ _ hx332_0; first | rwa [add_block] at this | exact this) GW317.out); replace hx332_0 := (HB.out.cell (World.block_lt_of_cell? w _ hx332_0)).trans hx332_0; replace hx332_0 := (cell_far (p := ⟨gb331, 0, none⟩) (by first | (rw [add_block]; exact hn332_0) | (show (Addr.add _ _).block ≠ _; rw [add_block]; exact hn332_0) | exact hn332_0) (.int .i64 t318)).trans hx332_0; replace hx332_0 := (cell_far (p := ⟨gb331, 1, none⟩) (by first | (rw [add_block]; exact hn332_1) | (show (Addr.add _ _).block ≠ _; rw [add_block]; exact hn332_1) | exact hn332_1) (.slice Ao111 t319.length co111)).trans hx332_0; replace hx332_0 := (cell_far (p := ⟨gb331, 2, none⟩) (by first | (rw [add_block]; exact hn332_2) | (show (Addr.add _ _).block ≠ _; rw [add_block]; exact hn332_2) | exact hn332_2) (.slice Ao112 t322.length co112)).trans hx332_0; replace hx332_0 := (cell_far (p := ⟨gb331, 3, none⟩) (by first | (rw [add_block]; exact hn332_3) | (show (Addr.add _ _).block ≠ _; rw [add_block]; exact hn332_3) | exact hn332_3) (.slice Ao113 t325.length co113)).trans hx332_0; replace hx332_0 := (cell_far (p := ⟨gb317, 0, none⟩) (by first | (rw [add_block]; exact hn332_4) | (show (Addr.add _ _).block ≠ _; rw [add_block]; exact hn332_4) | exact hn332_4) (.int .i64 t318)).trans hx332_0; replace hx332_0 := (cell_far (p := ⟨gb317, 1, none⟩) (by first | (rw [add_block]; exact hn332_5) | (show (Addr.add _ _).block ≠ _; rw [add_block]; exact hn332_5) | exact hn332_5) (.slice Ao111 t319.length co111)).trans hx332_0; replace hx332_0 := (cell_far (p := ⟨gb317, 2, none⟩) (by first | (rw [add_block]; exact hn332_6) | (show (Addr.add _ _).block ≠ _; rw [add_block]; exact hn332_6) | exact hn332_6) (.slice Ao112 t322.length co112)).trans hx332_0; replace hx332_0 := (cell_far (p := ⟨gb317, 3, none⟩) (by first | (rw [add_block]; exact hn332_7) | (show (Addr.add _ _).block ≠ _; rw [add_block]; exact hn332_7) | exact hn332_7) (.slice Ao113 t325.length co113)).trans hx332_0; clear hn332_0; clear hn332_1; clear hn332_2; clear hn332_3; clear hn332_4; clear hn332_5; clear hn332_6; clear hn332_7; replace p332 := eq_true p332; replace q332 := eq_true q332))
                        go_ret
                        exact ⟨by first | rfl | (simp [errW_none, errW_some] <;> rfl) | (simp [*, errW_none, errW_some] <;> rfl), by repeat (first | (with_reducible first | exact HB.out | apply below_alloc | apply pw_below_drewN | apply below_drew1 | refine below_set ?_ GE291.out | refine below_set ?_ GE317.out | refine below_set ?_ GE331.out) | exact HB.out)⟩
                    · rw [if_neg c48] at H
                      exact absurd H (by simp)
                  · rw [if_neg c46] at H
                    have c46b0 : decide (x9_3 < (l0_1.length : Int)) = false := decide_eq_false c46
                    clear c46
                    replace H := Option.bind_eq_some_iff.mp H
                    obtain ⟨⟨t333, t334, t337, t340, t343, t344, t345⟩, A1160, H⟩ := H
                    replace H : (if t292 = true then (if t345 = true then (if t343 = a1 then (if (t334.length : Int) = 0 then (some (t333 == a0_0)) else (some false)) else (some false)) else (some false)) else (some false)) = some r := H
                    have A116 := Aside0.mk A1160
                    clear A1160
                    by_cases c117 : t292 = true
                    · subst c117
                      have H1 : (if t345 = true then (if t343 = a1 then (if (t334.length : Int) = 0 then (some (t333 == a0_0)) else (some false)) else (some false)) else (some false)) = some r := by rw [if_pos rfl] at H; exact H
                      clear H
                      have H := H1
                      clear H1
                      by_cases c118 : t345 = true
                      · subst c118
                        have H1 : (if t343 = a1 then (if (t334.length : Int) = 0 then (some (t333 == a0_0)) else (some false)) else (some false)) = some r := by rw [if_pos rfl] at H; exact H
                        clear H
                        have H := H1
                        clear H1
                        by_cases c119 : t343 = a1
                        · rw [if_pos c119] at H
                          have c119b0 : (t343 == a1) = true := beq_iff_eq.mpr c119
                          have c119b1 : (t343 != a1) = false := bne_eq_false_iff_eq.mpr c119
                          clear c119
                          by_cases c120 : (t334.length : Int) = 0
                          · rw [if_pos c120] at H
                            have c120b0 : ((t334.length : Int) == 0) = true := beq_iff_eq.mpr c120
                            have c120b1 : ((t334.length : Int) != 0) = false := bne_eq_false_iff_eq.mpr c120
                            clear c120
                            obtain rfl := Option.some.inj H
                            have hnb121 := NB291_317.out
                            have hnc121 := NB317_291.out
                            have hcz122_0 : wr.cell? ⟨gb291, 0, none⟩ = some (.int .i64 a0_0) := (blk_cell BK291.out 0).trans rfl
                            have hcz122_1 : wr.cell? ⟨gb291, 1, none⟩ = some (.slice A0_1 l0_1.length c0_1) := (blk_cell BK291.out 1).trans rfl
                            have hcz122_2 : wr.cell? ⟨gb291, 2, none⟩ = some (.slice A0_2 l0_2.length c0_2) := (blk_cell BK291.out 2).trans rfl
                            have hcz122_3 : wr.cell? ⟨gb291, 3, none⟩ = some (.slice A0_3 l0_3.length c0_3) := (blk_cell BK291.out 3).trans rfl
                            have hfz122_0 := blk_frozen BK291.out 0
                            have hfz122_1 := blk_frozen BK291.out 1
                            have hfz122_2 := blk_frozen BK291.out 2
                            have hfz122_3 := blk_frozen BK291.out 3
                            have hcz123_0 : wr.cell? ⟨gb317, 0, none⟩ = some (.int .i64 x318000_3) := (blk_cell BK317.out 0).trans rfl
                            have hcz123_1 : wr.cell? ⟨gb317, 1, none⟩ = some (u318001) := (blk_cell BK317.out 1).trans rfl
                            have hcz123_2 : wr.cell? ⟨gb317, 2, none⟩ = some (u318002) := (blk_cell BK317.out 2).trans rfl
                            have hcz123_3 : wr.cell? ⟨gb317, 3, none⟩ = some (u318003) := (blk_cell BK317.out 3).trans rfl
                            have hfz123_0 := blk_frozen BK317.out 0
                            have hfz123_1 := blk_frozen BK317.out 1
                            have hfz123_2 := blk_frozen BK317.out 2
                            have hfz123_3 := blk_frozen BK317.out 3
                            obtain ⟨Ao124, co124, eo124⟩ := Kd.R_slice HO_318001.out
                            subst eo124
                            obtain ⟨Ao125, co125, eo125⟩ := Kd.R_slice HO_318002.out
                            subst eo125
                            obtain ⟨Ao126, co126, eo126⟩ := Kd.R_slice HO_318003.out
                            subst eo126
                            go_wp2_with (first | ((with_reducible refine gate_callee (f := 16) rfl ?_); refine goesL_ (some 88) rfl rfl Try.func16 (by kernel_rfl) rfl #[.agg #[.int .i64 x318000_3, .slice Ao124 x318001_3.length co124, .slice Ao125 x318002_3.length co125, .slice Ao126 x318003_3.length co126], .int .i64 1000] rfl (by (try simp only [List.map_toArray, List.map_cons, List.map_nil]); first | done | rfl | (simp only [List.length_drop, List.length_take]; rfl)) ?_; (with_reducible refine (box_Recv.calls k3 x318000_3 (fun k_ => some k_ = (.slice Ao124 x318001_3.length co124 : Value).ownBlock) (.slice Ao124 x318001_3.length co124) x318001_3 (fun k_ => some k_ = (.slice Ao125 x318002_3.length co125 : Value).ownBlock) (.slice Ao125 x318002_3.length co125) x318002_3 (fun k_ => some k_ = (.slice Ao126 x318003_3.length co126 : Value).ownBlock) (.slice Ao126 x318003_3.length co126) x318003_3 1000 t333 t334 t337 t340 t343 t344 true w _ ?side1 ?side2 ?side3 ?side4 A116.out).mono ?_); (case side1 => repeat (first | (with_reducible first | exact HB.out | apply below_alloc | apply pw_below_drewN | apply below_drew1 | refine below_set ?_ GE291.out | refine below_set ?_ GE317.out) | exact HB.out)); (case side2 => exact Kd.R_tight rfl HO_318001.out); (case side3 => exact Kd.R_tight rfl HO_318002.out); (case side4 => exact Kd.R_tight rfl HO_318003.out); rintro e w127 ⟨v335, v338, v341, rfl, ho0, ho1, ho2, hb, hkp⟩; refine ⟨_, rfl, ?_⟩; have n0_ := Aside0.mk (blk_kept (by (with_reducible repeat (first | refine blk_drewN ?_ _ | refine blk_drew ?_ | refine blk_alloc ?_ _)); exact BK291.out) hkp (fun hs_ => Or.elim hs_ (fun e_ => (fun e_ => (Kd.R_ne HO_318001.out BK291.out (by decide)) e_) e_) (fun e_ => Or.elim e_ (fun e_ => (fun e_ => (Kd.R_ne HO_318002.out BK291.out (by decide)) e_) e_) (fun e_ => (fun e_ => (Kd.R_ne HO_318003.out BK291.out (by decide)) e_) e_)))); have n1_ := Aside0.mk (blk_kept (by (with_reducible repeat (first | refine blk_drewN ?_ _ | refine blk_drew ?_ | refine blk_alloc ?_ _)); exact BK317.out) hkp (fun hs_ => Or.elim hs_ (fun e_ => (fun e_ => (Kd.R_ne HO_318001.out BK317.out (by decide)) e_) e_) (fun e_ => Or.elim e_ (fun e_ => (fun e_ => (Kd.R_ne HO_318002.out BK317.out (by decide)) e_) e_) (fun e_ => (fun e_ => (Kd.R_ne HO_318003.out BK317.out (by decide)) e_) e_)))); have n2_ := Aside0.mk (Kd.R_mono (ok' := fun k_ => True) ho0 (fun k_ hk_ => trivial)); have n3_ := Aside0.mk (Kd.R_mono (ok' := fun k_ => True) ho1 (fun k_ hk_ => trivial)); have n4_ := Aside0.mk (Kd.R_mono (ok' := fun k_ => True) ho2 (fun k_ hk_ => trivial)); have n5_ := Aside0.mk (hb); clear BK291; clear BK317; clear HB; clear HO_318001; clear HO_318002; clear HO_318003; have BK291 := n0_; have BK317 := n1_; have HO336 := n2_; have HO339 := n3_; have HO342 := n4_; have HB := n5_; clear n0_ n1_ n2_ n3_ n4_ n5_; (try clear hb); (try clear hkp); (try clear ho0); (try clear ho1); (try clear ho2)) | ((with_reducible refine gate_dst (N := 14) rfl ?_); (try (refine gate_guard (by rfl) ?_; dsimp only)); refine box_event ?hg (N := 14) ?hd (cs := #[.int .i64 0, .slice none 0 0, .slice none 0 0, .slice none 0 0]) (t := 27) ?hr ?_; (case hd => rfl); (case hg => rfl); (case hr => first | (go_simp; done) | (go_simp; rfl)); intro gb346 hg w128 hbox hb; have n0_ := Aside0.mk (Kd.R_below (by (with_reducible repeat (first | apply Kd.R_alloc | apply Kd.R_drewN | apply Kd.R_drew)); exact HO336.out) hb); have n1_ := Aside0.mk (Kd.R_below (by (with_reducible repeat (first | apply Kd.R_alloc | apply Kd.R_drewN | apply Kd.R_drew)); exact HO339.out) hb); have n2_ := Aside0.mk (Kd.R_below (by (with_reducible repeat (first | apply Kd.R_alloc | apply Kd.R_drewN | apply Kd.R_drew)); exact HO342.out) hb); have n3_ := Aside0.mk (blk_below (g := gb291) (o := .cells #[.int .i64 a0_0, .slice A0_1 l0_1.length c0_1, .slice A0_2 l0_2.length c0_2, .slice A0_3 l0_3.length c0_3] 35 (0, 0)) (by (with_reducible repeat (first | refine blk_drewN ?_ _ | refine blk_drew ?_ | refine blk_alloc ?_ _)); exact BK291.out) hb); have n4_ := Aside0.mk (blk_below (g := gb317) (o := .cells #[.int .i64 x318000_3, .slice Ao124 x318001_3.length co124, .slice Ao125 x318002_3.length co125, .slice Ao126 x318003_3.length co126] 27 (0, 0)) (by (with_reducible repeat (first | refine blk_drewN ?_ _ | refine blk_drew ?_ | refine blk_alloc ?_ _)); exact BK317.out) hb); have n5_ := Aside0.mk (below_step (by repeat (first | (with_reducible first | exact HB.out | apply below_alloc | apply pw_below_drewN | apply below_drew1 | refine below_set ?_ GE291.out | refine below_set ?_ GE317.out) | exact HB.out)) hb); have n6_ := Aside0.mk (hbox); have n7_ := Aside0.mk ((by rw [hg]; exact (below_size (by repeat (first | (with_reducible first | exact HB.out | apply below_alloc | apply pw_below_drewN | apply below_drew1 | refine below_set ?_ GE291.out | refine below_set ?_ GE317.out) | exact HB.out))) : w.heap.size ≤ gb346)); have n8_ := Aside0.mk ((by rw [hg]; exact (below_size (by repeat (first | (with_reducible first | exact HB.out | apply below_alloc | apply pw_below_drewN | apply below_drew1 | refine below_set ?_ GE291.out | refine below_set ?_ GE317.out) | exact HB.out))) : w.heap.size ≤ gb346)); have n9_ := Aside0.mk ((by rw [hg]; exact Nat.ne_of_lt (blk_lt (g := gb291) (o := .cells #[.int .i64 a0_0, .slice A0_1 l0_1.length c0_1, .slice A0_2 l0_2.length c0_2, .slice A0_3 l0_3.length c0_3] 35 (0, 0)) (by (with_reducible repeat (first | refine blk_drewN ?_ _ | refine blk_drew ?_ | refine blk_alloc ?_ _)); exact BK291.out)) : gb291 ≠ gb346)); have n10_ := Aside0.mk ((by rw [hg]; exact Nat.ne_of_gt (blk_lt (g := gb291) (o := .cells #[.int .i64 a0_0, .slice A0_1 l0_1.length c0_1, .slice A0_2 l0_2.length c0_2, .slice A0_3 l0_3.length c0_3] 35 (0, 0)) (by (with_reducible repeat (first | refine blk_drewN ?_ _ | refine blk_drew ?_ | refine blk_alloc ?_ _)); exact BK291.out)) : gb346 ≠ gb291)); have n11_ := Aside0.mk ((by rw [hg]; exact Nat.ne_of_lt (blk_lt (g := gb317) (o := .cells #[.int .i64 x318000_3, .slice Ao124 x318001_3.length co124, .slice Ao125 x318002_3.length co125, .slice Ao126 x318003_3.length co126] 27 (0, 0)) (by (with_reducible repeat (first | refine blk_drewN ?_ _ | refine blk_drew ?_ | refine blk_alloc ?_ _)); exact BK317.out)) : gb317 ≠ gb346)); have n12_ := Aside0.mk ((by rw [hg]; exact Nat.ne_of_gt (blk_lt (g := gb317) (o := .cells #[.int .i64 x318000_3, .slice Ao124 x318001_3.length co124, .slice Ao125 x318002_3.length co125, .slice Ao126 x318003_3.length co126] 27 (0, 0)) (by (with_reducible repeat (first | refine blk_drewN ?_ _ | refine blk_drew ?_ | refine blk_alloc ?_ _)); exact BK317.out)) : gb346 ≠ gb317)); clear HO336; clear HO339; clear HO342; clear BK291; clear BK317; clear HB; have HO336 := n0_; have HO339 := n1_; have HO342 := n2_; have BK291 := n3_; have BK317 := n4_; have HB := n5_; have BK346 := n6_; have GW346 := n7_; have GE346 := n8_; have NB291_346 := n9_; have NB346_291 := n10_; have NB317_346 := n11_; have NB346_317 := n12_; clear n0_ n1_ n2_ n3_ n4_ n5_ n6_ n7_ n8_ n9_ n10_ n11_ n12_; clear hb hbox hg; have hnb129 := NB346_291.out; have hnc129 := NB291_346.out; have hnb130 := NB346_317.out; have hnc130 := NB317_346.out; have hcz131_0 : w128.cell? ⟨gb346, 0, none⟩ = some (.int .i64 0) := (blk_cell BK346.out 0).trans rfl; have hcz131_1 : w128.cell? ⟨gb346, 1, none⟩ = some (.slice none 0 0) := (blk_cell BK346.out 1).trans rfl; have hcz131_2 : w128.cell? ⟨gb346, 2, none⟩ = some (.slice none 0 0) := (blk_cell BK346.out 2).trans rfl; have hcz131_3 : w128.cell? ⟨gb346, 3, none⟩ = some (.slice none 0 0) := (blk_cell BK346.out 3).trans rfl; have hfz131_0 := blk_frozen BK346.out 0; have hfz131_1 := blk_frozen BK346.out 1; have hfz131_2 := blk_frozen BK346.out 2; have hfz131_3 := blk_frozen BK346.out 3; obtain ⟨Ao132, co132, eo132⟩ := Kd.R_slice HO336.out; subst eo132; obtain ⟨Ao133, co133, eo133⟩ := Kd.R_slice HO339.out; subst eo133; obtain ⟨Ao134, co134, eo134⟩ := Kd.R_slice HO342.out; subst eo134; have hcz135_0 : w128.cell? ⟨gb291, 0, none⟩ = some (.int .i64 a0_0) := (blk_cell BK291.out 0).trans rfl; have hcz135_1 : w128.cell? ⟨gb291, 1, none⟩ = some (.slice A0_1 l0_1.length c0_1) := (blk_cell BK291.out 1).trans rfl; have hcz135_2 : w128.cell? ⟨gb291, 2, none⟩ = some (.slice A0_2 l0_2.length c0_2) := (blk_cell BK291.out 2).trans rfl; have hcz135_3 : w128.cell? ⟨gb291, 3, none⟩ = some (.slice A0_3 l0_3.length c0_3) := (blk_cell BK291.out 3).trans rfl; have hfz135_0 := blk_frozen BK291.out 0; have hfz135_1 := blk_frozen BK291.out 1; have hfz135_2 := blk_frozen BK291.out 2; have hfz135_3 := blk_frozen BK291.out 3))
                            go_ret
                            exact ⟨by first | rfl | (simp [errW_none, errW_some] <;> rfl) | (simp [*, errW_none, errW_some] <;> rfl), by repeat (first | (with_reducible first | exact HB.out | apply below_alloc | apply pw_below_drewN | apply below_drew1 | refine below_set ?_ GE291.out | refine below_set ?_ GE317.out | refine below_set ?_ GE346.out) | exact HB.out)⟩
                          · rw [if_neg c120] at H
                            have c120b0 : ((t334.length : Int) == 0) = false := beq_eq_false_iff_ne.mpr c120
                            have c120b1 : ((t334.length : Int) != 0) = true := bne_iff_ne.mpr c120
                            have c120b2 : ¬ (t334 = []) := fun h_ => c120 (by rw [h_]; rfl)
                            obtain rfl := Option.some.inj H
                            have hnb136 := NB291_317.out
                            have hnc136 := NB317_291.out
                            have hcz137_0 : wr.cell? ⟨gb291, 0, none⟩ = some (.int .i64 a0_0) := (blk_cell BK291.out 0).trans rfl
                            have hcz137_1 : wr.cell? ⟨gb291, 1, none⟩ = some (.slice A0_1 l0_1.length c0_1) := (blk_cell BK291.out 1).trans rfl
                            have hcz137_2 : wr.cell? ⟨gb291, 2, none⟩ = some (.slice A0_2 l0_2.length c0_2) := (blk_cell BK291.out 2).trans rfl
                            have hcz137_3 : wr.cell? ⟨gb291, 3, none⟩ = some (.slice A0_3 l0_3.length c0_3) := (blk_cell BK291.out 3).trans rfl
                            have hfz137_0 := blk_frozen BK291.out 0
                            have hfz137_1 := blk_frozen BK291.out 1
                            have hfz137_2 := blk_frozen BK291.out 2
                            have hfz137_3 := blk_frozen BK291.out 3
                            have hcz138_0 : wr.cell? ⟨gb317, 0, none⟩ = some (.int .i64 x318000_3) := (blk_cell BK317.out 0).trans rfl
                            have hcz138_1 : wr.cell? ⟨gb317, 1, none⟩ = some (u318001) := (blk_cell BK317.out 1).trans rfl
                            have hcz138_2 : wr.cell? ⟨gb317, 2, none⟩ = some (u318002) := (blk_cell BK317.out 2).trans rfl
                            have hcz138_3 : wr.cell? ⟨gb317, 3, none⟩ = some (u318003) := (blk_cell BK317.out 3).trans rfl
                            have hfz138_0 := blk_frozen BK317.out 0
                            have hfz138_1 := blk_frozen BK317.out 1
                            have hfz138_2 := blk_frozen BK317.out 2
                            have hfz138_3 := blk_frozen BK317.out 3
                            obtain ⟨Ao139, co139, eo139⟩ := Kd.R_slice HO_318001.out
                            subst eo139
                            obtain ⟨Ao140, co140, eo140⟩ := Kd.R_slice HO_318002.out
                            subst eo140
                            obtain ⟨Ao141, co141, eo141⟩ := Kd.R_slice HO_318003.out
                            subst eo141
                            go_wp2_with (first | ((with_reducible refine gate_callee (f := 16) rfl ?_); refine goesL_ (some 88) rfl rfl Try.func16 (by kernel_rfl) rfl #[.agg #[.int .i64 x318000_3, .slice Ao139 x318001_3.length co139, .slice Ao140 x318002_3.length co140, .slice Ao141 x318003_3.length co141], .int .i64 1000] rfl (by (try simp only [List.map_toArray, List.map_cons, List.map_nil]); first | done | rfl | (simp only [List.length_drop, List.length_take]; rfl)) ?_; (with_reducible refine (box_Recv.calls k3 x318000_3 (fun k_ => some k_ = (.slice Ao139 x318001_3.length co139 : Value).ownBlock) (.slice Ao139 x318001_3.length co139) x318001_3 (fun k_ => some k_ = (.slice Ao140 x318002_3.length co140 : Value).ownBlock) (.slice Ao140 x318002_3.length co140) x318002_3 (fun k_ => some k_ = (.slice Ao141 x318003_3.length co141 : Value).ownBlock) (.slice Ao141 x318003_3.length co141) x318003_3 1000 t333 t334 t337 t340 t343 t344 true w _ ?side1 ?side2 ?side3 ?side4 A116.out).mono ?_); (case side1 => repeat (first | (with_reducible first | exact HB.out | apply below_alloc | apply pw_below_drewN | apply below_drew1 | refine below_set ?_ GE291.out | refine below_set ?_ GE317.out) | exact HB.out)); (case side2 => exact Kd.R_tight rfl HO_318001.out); (case side3 => exact Kd.R_tight rfl HO_318002.out); (case side4 => exact Kd.R_tight rfl HO_318003.out); rintro e w142 ⟨v335, v338, v341, rfl, ho0, ho1, ho2, hb, hkp⟩; refine ⟨_, rfl, ?_⟩; have n0_ := Aside0.mk (blk_kept (by (with_reducible repeat (first | refine blk_drewN ?_ _ | refine blk_drew ?_ | refine blk_alloc ?_ _)); exact BK291.out) hkp (fun hs_ => Or.elim hs_ (fun e_ => (fun e_ => (Kd.R_ne HO_318001.out BK291.out (by decide)) e_) e_) (fun e_ => Or.elim e_ (fun e_ => (fun e_ => (Kd.R_ne HO_318002.out BK291.out (by decide)) e_) e_) (fun e_ => (fun e_ => (Kd.R_ne HO_318003.out BK291.out (by decide)) e_) e_)))); have n1_ := Aside0.mk (blk_kept (by (with_reducible repeat (first | refine blk_drewN ?_ _ | refine blk_drew ?_ | refine blk_alloc ?_ _)); exact BK317.out) hkp (fun hs_ => Or.elim hs_ (fun e_ => (fun e_ => (Kd.R_ne HO_318001.out BK317.out (by decide)) e_) e_) (fun e_ => Or.elim e_ (fun e_ => (fun e_ => (Kd.R_ne HO_318002.out BK317.out (by decide)) e_) e_) (fun e_ => (fun e_ => (Kd.R_ne HO_318003.out BK317.out (by decide)) e_) e_)))); have n2_ := Aside0.mk (Kd.R_mono (ok' := fun k_ => True) ho0 (fun k_ hk_ => trivial)); have n3_ := Aside0.mk (Kd.R_mono (ok' := fun k_ => True) ho1 (fun k_ hk_ => trivial)); have n4_ := Aside0.mk (Kd.R_mono (ok' := fun k_ => True) ho2 (fun k_ hk_ => trivial)); have n5_ := Aside0.mk (hb); clear BK291; clear BK317; clear HB; clear HO_318001; clear HO_318002; clear HO_318003; have BK291 := n0_; have BK317 := n1_; have HO336 := n2_; have HO339 := n3_; have HO342 := n4_; have HB := n5_; clear n0_ n1_ n2_ n3_ n4_ n5_; (try clear hb); (try clear hkp); (try clear ho0); (try clear ho1); (try clear ho2)) | ((with_reducible refine gate_dst (N := 14) rfl ?_); (try (refine gate_guard (by rfl) ?_; dsimp only)); refine box_event ?hg (N := 14) ?hd (cs := #[.int .i64 0, .slice none 0 0, .slice none 0 0, .slice none 0 0]) (t := 27) ?hr ?_; (case hd => rfl); (case hg => rfl); (case hr => first | (go_simp; done) | (go_simp; rfl)); intro gb346 hg w143 hbox hb; have n0_ := Aside0.mk (Kd.R_below (by (with_reducible repeat (first | apply Kd.R_alloc | apply Kd.R_drewN | apply Kd.R_drew)); exact HO336.out) hb); have n1_ := Aside0.mk (Kd.R_below (by (with_reducible repeat (first | apply Kd.R_alloc | apply Kd.R_drewN | apply Kd.R_drew)); exact HO339.out) hb); have n2_ := Aside0.mk (Kd.R_below (by (with_reducible repeat (first | apply Kd.R_alloc | apply Kd.R_drewN | apply Kd.R_drew)); exact HO342.out) hb); have n3_ := Aside0.mk (blk_below (g := gb291) (o := .cells #[.int .i64 a0_0, .slice A0_1 l0_1.length c0_1, .slice A0_2 l0_2.length c0_2, .slice A0_3 l0_3.length c0_3] 35 (0, 0)) (by (with_reducible repeat (first | refine blk_drewN ?_ _ | refine blk_drew ?_ | refine blk_alloc ?_ _)); exact BK291.out) hb); have n4_ := Aside0.mk (blk_below (g := gb317) (o := .cells #[.int .i64 x318000_3, .slice Ao139 x318001_3.length co139, .slice Ao140 x318002_3.length co140, .slice Ao141 x318003_3.length co141] 27 (0, 0)) (by (with_reducible repeat (first | refine blk_drewN ?_ _ | refine blk_drew ?_ | refine blk_alloc ?_ _)); exact BK317.out) hb); have n5_ := Aside0.mk (below_step (by repeat (first | (with_reducible first | exact HB.out | apply below_alloc | apply pw_below_drewN | apply below_drew1 | refine below_set ?_ GE291.out | refine below_set ?_ GE317.out) | exact HB.out)) hb); have n6_ := Aside0.mk (hbox); have n7_ := Aside0.mk ((by rw [hg]; exact (below_size (by repeat (first | (with_reducible first | exact HB.out | apply below_alloc | apply pw_below_drewN | apply below_drew1 | refine below_set ?_ GE291.out | refine below_set ?_ GE317.out) | exact HB.out))) : w.heap.size ≤ gb346)); have n8_ := Aside0.mk ((by rw [hg]; exact (below_size (by repeat (first | (with_reducible first | exact HB.out | apply below_alloc | apply pw_below_drewN | apply below_drew1 | refine below_set ?_ GE291.out | refine below_set ?_ GE317.out) | exact HB.out))) : w.heap.size ≤ gb346)); have n9_ := Aside0.mk ((by rw [hg]; exact Nat.ne_of_lt (blk_lt (g := gb291) (o := .cells #[.int .i64 a0_0, .slice A0_1 l0_1.length c0_1, .slice A0_2 l0_2.length c0_2, .slice A0_3 l0_3.length c0_3] 35 (0, 0)) (by (with_reducible repeat (first | refine blk_drewN ?_ _ | refine blk_drew ?_ | refine blk_alloc ?_ _)); exact BK291.out)) : gb291 ≠ gb346)); have n10_ := Aside0.mk ((by rw [hg]; exact Nat.ne_of_gt (blk_lt (g := gb291) (o := .cells #[.int .i64 a0_0, .slice A0_1 l0_1.length c0_1, .slice A0_2 l0_2.length c0_2, .slice A0_3 l0_3.length c0_3] 35 (0, 0)) (by (with_reducible repeat (first | refine blk_drewN ?_ _ | refine blk_drew ?_ | refine blk_alloc ?_ _)); exact BK291.out)) : gb346 ≠ gb291)); have n11_ := Aside0.mk ((by rw [hg]; exact Nat.ne_of_lt (blk_lt (g := gb317) (o := .cells #[.int .i64 x318000_3, .slice Ao139 x318001_3.length co139, .slice Ao140 x318002_3.length co140, .slice Ao141 x318003_3.length co141] 27 (0, 0)) (by (with_reducible repeat (first | refine blk_drewN ?_ _ | refine blk_drew ?_ | refine blk_alloc ?_ _)); exact BK317.out)) : gb317 ≠ gb346)); have n12_ := Aside0.mk ((by rw [hg]; exact Nat.ne_of_gt (blk_lt (g := gb317) (o := .cells #[.int .i64 x318000_3, .slice Ao139 x318001_3.length co139, .slice Ao140 x318002_3.length co140, .slice Ao141 x318003_3.length co141] 27 (0, 0)) (by (with_reducible repeat (first | refine blk_drewN ?_ _ | refine blk_drew ?_ | refine blk_alloc ?_ _)); exact BK317.out)) : gb346 ≠ gb317)); clear HO336; clear HO339; clear HO342; clear BK291; clear BK317; clear HB; have HO336 := n0_; have HO339 := n1_; have HO342 := n2_; have BK291 := n3_; have BK317 := n4_; have HB := n5_; have BK346 := n6_; have GW346 := n7_; have GE346 := n8_; have NB291_346 := n9_; have NB346_291 := n10_; have NB317_346 := n11_; have NB346_317 := n12_; clear n0_ n1_ n2_ n3_ n4_ n5_ n6_ n7_ n8_ n9_ n10_ n11_ n12_; clear hb hbox hg; have hnb144 := NB346_291.out; have hnc144 := NB291_346.out; have hnb145 := NB346_317.out; have hnc145 := NB317_346.out; have hcz146_0 : w143.cell? ⟨gb346, 0, none⟩ = some (.int .i64 0) := (blk_cell BK346.out 0).trans rfl; have hcz146_1 : w143.cell? ⟨gb346, 1, none⟩ = some (.slice none 0 0) := (blk_cell BK346.out 1).trans rfl; have hcz146_2 : w143.cell? ⟨gb346, 2, none⟩ = some (.slice none 0 0) := (blk_cell BK346.out 2).trans rfl; have hcz146_3 : w143.cell? ⟨gb346, 3, none⟩ = some (.slice none 0 0) := (blk_cell BK346.out 3).trans rfl; have hfz146_0 := blk_frozen BK346.out 0; have hfz146_1 := blk_frozen BK346.out 1; have hfz146_2 := blk_frozen BK346.out 2; have hfz146_3 := blk_frozen BK346.out 3; obtain ⟨Ao147, co147, eo147⟩ := Kd.R_slice HO336.out; subst eo147; obtain ⟨Ao148, co148, eo148⟩ := Kd.R_slice HO339.out; subst eo148; obtain ⟨Ao149, co149, eo149⟩ := Kd.R_slice HO342.out; subst eo149))
                            go_ret
                            exact ⟨by first | rfl | (simp [errW_none, errW_some] <;> rfl) | (simp [*, errW_none, errW_some] <;> rfl), by repeat (first | (with_reducible first | exact HB.out | apply below_alloc | apply pw_below_drewN | apply below_drew1 | refine below_set ?_ GE291.out | refine below_set ?_ GE317.out | refine below_set ?_ GE346.out) | exact HB.out)⟩
                        · rw [if_neg c119] at H
                          have c119b0 : (t343 == a1) = false := beq_eq_false_iff_ne.mpr c119
                          have c119b1 : (t343 != a1) = true := bne_iff_ne.mpr c119
                          obtain rfl := Option.some.inj H
                          have hnb150 := NB291_317.out
                          have hnc150 := NB317_291.out
                          have hcz151_0 : wr.cell? ⟨gb291, 0, none⟩ = some (.int .i64 a0_0) := (blk_cell BK291.out 0).trans rfl
                          have hcz151_1 : wr.cell? ⟨gb291, 1, none⟩ = some (.slice A0_1 l0_1.length c0_1) := (blk_cell BK291.out 1).trans rfl
                          have hcz151_2 : wr.cell? ⟨gb291, 2, none⟩ = some (.slice A0_2 l0_2.length c0_2) := (blk_cell BK291.out 2).trans rfl
                          have hcz151_3 : wr.cell? ⟨gb291, 3, none⟩ = some (.slice A0_3 l0_3.length c0_3) := (blk_cell BK291.out 3).trans rfl
                          have hfz151_0 := blk_frozen BK291.out 0
                          have hfz151_1 := blk_frozen BK291.out 1
                          have hfz151_2 := blk_frozen BK291.out 2
                          have hfz151_3 := blk_frozen BK291.out 3
                          have hcz152_0 : wr.cell? ⟨gb317, 0, none⟩ = some (.int .i64 x318000_3) := (blk_cell BK317.out 0).trans rfl
                          have hcz152_1 : wr.cell? ⟨gb317, 1, none⟩ = some (u318001) := (blk_cell BK317.out 1).trans rfl
                          have hcz152_2 : wr.cell? ⟨gb317, 2, none⟩ = some (u318002) := (blk_cell BK317.out 2).trans rfl
                          have hcz152_3 : wr.cell? ⟨gb317, 3, none⟩ = some (u318003) := (blk_cell BK317.out 3).trans rfl
                          have hfz152_0 := blk_frozen BK317.out 0
                          have hfz152_1 := blk_frozen BK317.out 1
                          have hfz152_2 := blk_frozen BK317.out 2
                          have hfz152_3 := blk_frozen BK317.out 3
                          obtain ⟨Ao153, co153, eo153⟩ := Kd.R_slice HO_318001.out
                          subst eo153
                          obtain ⟨Ao154, co154, eo154⟩ := Kd.R_slice HO_318002.out
                          subst eo154
                          obtain ⟨Ao155, co155, eo155⟩ := Kd.R_slice HO_318003.out
                          subst eo155
                          go_wp2_with (first | ((with_reducible refine gate_callee (f := 16) rfl ?_); refine goesL_ (some 88) rfl rfl Try.func16 (by kernel_rfl) rfl #[.agg #[.int .i64 x318000_3, .slice Ao153 x318001_3.length co153, .slice Ao154 x318002_3.length co154, .slice Ao155 x318003_3.length co155], .int .i64 1000] rfl (by (try simp only [List.map_toArray, List.map_cons, List.map_nil]); first | done | rfl | (simp only [List.length_drop, List.length_take]; rfl)) ?_; (with_reducible refine (box_Recv.calls k3 x318000_3 (fun k_ => some k_ = (.slice Ao153 x318001_3.length co153 : Value).ownBlock) (.slice Ao153 x318001_3.length co153) x318001_3 (fun k_ => some k_ = (.slice Ao154 x318002_3.length co154 : Value).ownBlock) (.slice Ao154 x318002_3.length co154) x318002_3 (fun k_ => some k_ = (.slice Ao155 x318003_3.length co155 : Value).ownBlock) (.slice Ao155 x318003_3.length co155) x318003_3 1000 t333 t334 t337 t340 t343 t344 true w _ ?side1 ?side2 ?side3 ?side4 A116.out).mono ?_); (case side1 => repeat (first | (with_reducible first | exact HB.out | apply below_alloc | apply pw_below_drewN | apply below_drew1 | refine below_set ?_ GE291.out | refine below_set ?_ GE317.out) | exact HB.out)); (case side2 => exact Kd.R_tight rfl HO_318001.out); (case side3 => exact Kd.R_tight rfl HO_318002.out); (case side4 => exact Kd.R_tight rfl HO_318003.out); rintro e w156 ⟨v335, v338, v341, rfl, ho0, ho1, ho2, hb, hkp⟩; refine ⟨_, rfl, ?_⟩; have n0_ := Aside0.mk (blk_kept (by (with_reducible repeat (first | refine blk_drewN ?_ _ | refine blk_drew ?_ | refine blk_alloc ?_ _)); exact BK291.out) hkp (fun hs_ => Or.elim hs_ (fun e_ => (fun e_ => (Kd.R_ne HO_318001.out BK291.out (by decide)) e_) e_) (fun e_ => Or.elim e_ (fun e_ => (fun e_ => (Kd.R_ne HO_318002.out BK291.out (by decide)) e_) e_) (fun e_ => (fun e_ => (Kd.R_ne HO_318003.out BK291.out (by decide)) e_) e_)))); have n1_ := Aside0.mk (blk_kept (by (with_reducible repeat (first | refine blk_drewN ?_ _ | refine blk_drew ?_ | refine blk_alloc ?_ _)); exact BK317.out) hkp (fun hs_ => Or.elim hs_ (fun e_ => (fun e_ => (Kd.R_ne HO_318001.out BK317.out (by decide)) e_) e_) (fun e_ => Or.elim e_ (fun e_ => (fun e_ => (Kd.R_ne HO_318002.out BK317.out (by decide)) e_) e_) (fun e_ => (fun e_ => (Kd.R_ne HO_318003.out BK317.out (by decide)) e_) e_)))); have n2_ := Aside0.mk (Kd.R_mono (ok' := fun k_ => True) ho0 (fun k_ hk_ => trivial)); have n3_ := Aside0.mk (Kd.R_mono (ok' := fun k_ => True) ho1 (fun k_ hk_ => trivial)); have n4_ := Aside0.mk (Kd.R_mono (ok' := fun k_ => True) ho2 (fun k_ hk_ => trivial)); have n5_ := Aside0.mk (hb); clear BK291; clear BK317; clear HB; clear HO_318001; clear HO_318002; clear HO_318003; have BK291 := n0_; have BK317 := n1_; have HO336 := n2_; have HO339 := n3_; have HO342 := n4_; have HB := n5_; clear n0_ n1_ n2_ n3_ n4_ n5_; (try clear hb); (try clear hkp); (try clear ho0); (try clear ho1); (try clear ho2)) | ((with_reducible refine gate_dst (N := 14) rfl ?_); (try (refine gate_guard (by rfl) ?_; dsimp only)); refine box_event ?hg (N := 14) ?hd (cs := #[.int .i64 0, .slice none 0 0, .slice none 0 0, .slice none 0 0]) (t := 27) ?hr ?_; (case hd => rfl); (case hg => rfl); (case hr => first | (go_simp; done) | (go_simp; rfl)); intro gb346 hg w157 hbox hb; have n0_ := Aside0.mk (Kd.R_below (by (with_reducible repeat (first | apply Kd.R_alloc | apply Kd.R_drewN | apply Kd.R_drew)); exact HO336.out) hb); have n1_ := Aside0.mk (Kd.R_below (by (with_reducible repeat (first | apply Kd.R_alloc | apply Kd.R_drewN | apply Kd.R_drew)); exact HO339.out) hb); have n2_ := Aside0.mk (Kd.R_below (by (with_reducible repeat (first | apply Kd.R_alloc | apply Kd.R_drewN | apply Kd.R_drew)); exact HO342.out) hb); have n3_ := Aside0.mk (blk_below (g := gb291) (o := .cells #[.int .i64 a0_0, .slice A0_1 l0_1.length c0_1, .slice A0_2 l0_2.length c0_2, .slice A0_3 l0_3.length c0_3] 35 (0, 0)) (by (with_reducible repeat (first | refine blk_drewN ?_ _ | refine blk_drew ?_ | refine blk_alloc ?_ _)); exact BK291.out) hb); have n4_ := Aside0.mk (blk_below (g := gb317) (o := .cells #[.int .i64 x318000_3, .slice Ao153 x318001_3.length co153, .slice Ao154 x318002_3.length co154, .slice Ao155 x318003_3.length co155] 27 (0, 0)) (by (with_reducible repeat (first | refine blk_drewN ?_ _ | refine blk_drew ?_ | refine blk_alloc ?_ _)); exact BK317.out) hb); have n5_ := Aside0.mk (below_step (by repeat (first | (with_reducible first | exact HB.out | apply below_alloc | apply pw_below_drewN | apply below_drew1 | refine below_set ?_ GE291.out | refine below_set ?_ GE317.out) | exact HB.out)) hb); have n6_ := Aside0.mk (hbox); have n7_ := Aside0.mk ((by rw [hg]; exact (below_size (by repeat (first | (with_reducible first | exact HB.out | apply below_alloc | apply pw_below_drewN | apply below_drew1 | refine below_set ?_ GE291.out | refine below_set ?_ GE317.out) | exact HB.out))) : w.heap.size ≤ gb346)); have n8_ := Aside0.mk ((by rw [hg]; exact (below_size (by repeat (first | (with_reducible first | exact HB.out | apply below_alloc | apply pw_below_drewN | apply below_drew1 | refine below_set ?_ GE291.out | refine below_set ?_ GE317.out) | exact HB.out))) : w.heap.size ≤ gb346)); have n9_ := Aside0.mk ((by rw [hg]; exact Nat.ne_of_lt (blk_lt (g := gb291) (o := .cells #[.int .i64 a0_0, .slice A0_1 l0_1.length c0_1, .slice A0_2 l0_2.length c0_2, .slice A0_3 l0_3.length c0_3] 35 (0, 0)) (by (with_reducible repeat (first | refine blk_drewN ?_ _ | refine blk_drew ?_ | refine blk_alloc ?_ _)); exact BK291.out)) : gb291 ≠ gb346)); have n10_ := Aside0.mk ((by rw [hg]; exact Nat.ne_of_gt (blk_lt (g := gb291) (o := .cells #[.int .i64 a0_0, .slice A0_1 l0_1.length c0_1, .slice A0_2 l0_2.length c0_2, .slice A0_3 l0_3.length c0_3] 35 (0, 0)) (by (with_reducible repeat (first | refine blk_drewN ?_ _ | refine blk_drew ?_ | refine blk_alloc ?_ _)); exact BK291.out)) : gb346 ≠ gb291)); have n11_ := Aside0.mk ((by rw [hg]; exact Nat.ne_of_lt (blk_lt (g := gb317) (o := .cells #[.int .i64 x318000_3, .slice Ao153 x318001_3.length co153, .slice Ao154 x318002_3.length co154, .slice Ao155 x318003_3.length co155] 27 (0, 0)) (by (with_reducible repeat (first | refine blk_drewN ?_ _ | refine blk_drew ?_ | refine blk_alloc ?_ _)); exact BK317.out)) : gb317 ≠ gb346)); have n12_ := Aside0.mk ((by rw [hg]; exact Nat.ne_of_gt (blk_lt (g := gb317) (o := .cells #[.int .i64 x318000_3, .slice Ao153 x318001_3.length co153, .slice Ao154 x318002_3.length co154, .slice Ao155 x318003_3.length co155] 27 (0, 0)) (by (with_reducible repeat (first | refine blk_drewN ?_ _ | refine blk_drew ?_ | refine blk_alloc ?_ _)); exact BK317.out)) : gb346 ≠ gb317)); clear HO336; clear HO339; clear HO342; clear BK291; clear BK317; clear HB; have HO336 := n0_; have HO339 := n1_; have HO342 := n2_; have BK291 := n3_; have BK317 := n4_; have HB := n5_; have BK346 := n6_; have GW346 := n7_; have GE346 := n8_; have NB291_346 := n9_; have NB346_291 := n10_; have NB317_346 := n11_; have NB346_317 := n12_; clear n0_ n1_ n2_ n3_ n4_ n5_ n6_ n7_ n8_ n9_ n10_ n11_ n12_; clear hb hbox hg; have hnb158 := NB346_291.out; have hnc158 := NB291_346.out; have hnb159 := NB346_317.out; have hnc159 := NB317_346.out; have hcz160_0 : w157.cell? ⟨gb346, 0, none⟩ = some (.int .i64 0) := (blk_cell BK346.out 0).trans rfl; have hcz160_1 : w157.cell? ⟨gb346, 1, none⟩ = some (.slice none 0 0) := (blk_cell BK346.out 1).trans rfl; have hcz160_2 : w157.cell? ⟨gb346, 2, none⟩ = some (.slice none 0 0) := (blk_cell BK346.out 2).trans rfl; have hcz160_3 : w157.cell? ⟨gb346, 3, none⟩ = some (.slice none 0 0) := (blk_cell BK346.out 3).trans rfl; have hfz160_0 := blk_frozen BK346.out 0; have hfz160_1 := blk_frozen BK346.out 1; have hfz160_2 := blk_frozen BK346.out 2; have hfz160_3 := blk_frozen BK346.out 3; obtain ⟨Ao161, co161, eo161⟩ := Kd.R_slice HO336.out; subst eo161; obtain ⟨Ao162, co162, eo162⟩ := Kd.R_slice HO339.out; subst eo162; obtain ⟨Ao163, co163, eo163⟩ := Kd.R_slice HO342.out; subst eo163))
                          go_ret
                          exact ⟨by first | rfl | (simp [errW_none, errW_some] <;> rfl) | (simp [*, errW_none, errW_some] <;> rfl), by repeat (first | (with_reducible first | exact HB.out | apply below_alloc | apply pw_below_drewN | apply below_drew1 | refine below_set ?_ GE291.out | refine below_set ?_ GE317.out | refine below_set ?_ GE346.out) | exact HB.out)⟩
                      · replace c118 := Bool.eq_false_iff.mpr c118
                        subst c118
                        have H1 : (some false) = some r := by rw [if_neg (show ¬ (false = true) by decide)] at H; exact H
                        clear H
                        have H := H1
                        clear H1
                        obtain rfl := Option.some.inj H
                        have hnb164 := NB291_317.out
                        have hnc164 := NB317_291.out
                        have hcz165_0 : wr.cell? ⟨gb291, 0, none⟩ = some (.int .i64 a0_0) := (blk_cell BK291.out 0).trans rfl
                        have hcz165_1 : wr.cell? ⟨gb291, 1, none⟩ = some (.slice A0_1 l0_1.length c0_1) := (blk_cell BK291.out 1).trans rfl
                        have hcz165_2 : wr.cell? ⟨gb291, 2, none⟩ = some (.slice A0_2 l0_2.length c0_2) := (blk_cell BK291.out 2).trans rfl
                        have hcz165_3 : wr.cell? ⟨gb291, 3, none⟩ = some (.slice A0_3 l0_3.length c0_3) := (blk_cell BK291.out 3).trans rfl
                        have hfz165_0 := blk_frozen BK291.out 0
                        have hfz165_1 := blk_frozen BK291.out 1
                        have hfz165_2 := blk_frozen BK291.out 2
                        have hfz165_3 := blk_frozen BK291.out 3
                        have hcz166_0 : wr.cell? ⟨gb317, 0, none⟩ = some (.int .i64 x318000_3) := (blk_cell BK317.out 0).trans rfl
                        have hcz166_1 : wr.cell? ⟨gb317, 1, none⟩ = some (u318001) := (blk_cell BK317.out 1).trans rfl
                        have hcz166_2 : wr.cell? ⟨gb317, 2, none⟩ = some (u318002) := (blk_cell BK317.out 2).trans rfl
                        have hcz166_3 : wr.cell? ⟨gb317, 3, none⟩ = some (u318003) := (blk_cell BK317.out 3).trans rfl
                        have hfz166_0 := blk_frozen BK317.out 0
                        have hfz166_1 := blk_frozen BK317.out 1
                        have hfz166_2 := blk_frozen BK317.out 2
                        have hfz166_3 := blk_frozen BK317.out 3
                        obtain ⟨Ao167, co167, eo167⟩ := Kd.R_slice HO_318001.out
                        subst eo167
                        obtain ⟨Ao168, co168, eo168⟩ := Kd.R_slice HO_318002.out
                        subst eo168
                        obtain ⟨Ao169, co169, eo169⟩ := Kd.R_slice HO_318003.out
                        subst eo169
                        go_wp2_with (first | ((with_reducible refine gate_callee (f := 16) rfl ?_); refine goesL_ (some 88) rfl rfl Try.func16 (by kernel_rfl) rfl #[.agg #[.int .i64 x318000_3, .slice Ao167 x318001_3.length co167, .slice Ao168 x318002_3.length co168, .slice Ao169 x318003_3.length co169], .int .i64 1000] rfl (by (try simp only [List.map_toArray, List.map_cons, List.map_nil]); first | done | rfl | (simp only [List.length_drop, List.length_take]; rfl)) ?_; (with_reducible refine (box_Recv.calls k3 x318000_3 (fun k_ => some k_ = (.slice Ao167 x318001_3.length co167 : Value).ownBlock) (.slice Ao167 x318001_3.length co167) x318001_3 (fun k_ => some k_ = (.slice Ao168 x318002_3.length co168 : Value).ownBlock) (.slice Ao168 x318002_3.length co168) x318002_3 (fun k_ => some k_ = (.slice Ao169 x318003_3.length co169 : Value).ownBlock) (.slice Ao169 x318003_3.length co169) x318003_3 1000 t333 t334 t337 t340 t343 t344 false w _ ?side1 ?side2 ?side3 ?side4 A116.out).mono ?_); (case side1 => repeat (first | (with_reducible first | exact HB.out | apply below_alloc | apply pw_below_drewN | apply below_drew1 | refine below_set ?_ GE291.out | refine below_set ?_ GE317.out) | exact HB.out)); (case side2 => exact Kd.R_tight rfl HO_318001.out); (case side3 => exact Kd.R_tight rfl HO_318002.out); (case side4 => exact Kd.R_tight rfl HO_318003.out); rintro e w170 ⟨v335, v338, v341, rfl, ho0, ho1, ho2, hb, hkp⟩; refine ⟨_, rfl, ?_⟩; have n0_ := Aside0.mk (blk_kept (by (with_reducible repeat (first | refine blk_drewN ?_ _ | refine blk_drew ?_ | refine blk_alloc ?_ _)); exact BK291.out) hkp (fun hs_ => Or.elim hs_ (fun e_ => (fun e_ => (Kd.R_ne HO_318001.out BK291.out (by decide)) e_) e_) (fun e_ => Or.elim e_ (fun e_ => (fun e_ => (Kd.R_ne HO_318002.out BK291.out (by decide)) e_) e_) (fun e_ => (fun e_ => (Kd.R_ne HO_318003.out BK291.out (by decide)) e_) e_)))); have n1_ := Aside0.mk (blk_kept (by (with_reducible repeat (first | refine blk_drewN ?_ _ | refine blk_drew ?_ | refine blk_alloc ?_ _)); exact BK317.out) hkp (fun hs_ => Or.elim hs_ (fun e_ => (fun e_ => (Kd.R_ne HO_318001.out BK317.out (by decide)) e_) e_) (fun e_ => Or.elim e_ (fun e_ => (fun e_ => (Kd.R_ne HO_318002.out BK317.out (by decide)) e_) e_) (fun e_ => (fun e_ => (Kd.R_ne HO_318003.out BK317.out (by decide)) e_) e_)))); have n2_ := Aside0.mk (Kd.R_mono (ok' := fun k_ => True) ho0 (fun k_ hk_ => trivial)); have n3_ := Aside0.mk (Kd.R_mono (ok' := fun k_ => True) ho1 (fun k_ hk_ => trivial)); have n4_ := Aside0.mk (Kd.R_mono (ok' := fun k_ => True) ho2 (fun k_ hk_ => trivial)); have n5_ := Aside0.mk (hb); clear BK291; clear BK317; clear HB; clear HO_318001; clear HO_318002; clear HO_318003; have BK291 := n0_; have BK317 := n1_; have HO336 := n2_; have HO339 := n3_; have HO342 := n4_; have HB := n5_; clear n0_ n1_ n2_ n3_ n4_ n5_; (try clear hb); (try clear hkp); (try clear ho0); (try clear ho1); (try clear ho2)) | ((with_reducible refine gate_dst (N := 14) rfl ?_); (try (refine gate_guard (by rfl) ?_; dsimp only)); refine box_event ?hg (N := 14) ?hd (cs := #[.int .i64 0, .slice none 0 0, .slice none 0 0, .slice none 0 0]) (t := 27) ?hr ?_; (case hd => rfl); (case hg => rfl); (case hr => first | (go_simp; done) | (go_simp; rfl)); intro gb346 hg w171 hbox hb; have n0_ := Aside0.mk (Kd.R_below (by (with_reducible repeat (first | apply Kd.R_alloc | apply Kd.R_drewN | apply Kd.R_drew)); exact HO336.out) hb); have n1_ := Aside0.mk (Kd.R_below (by (with_reducible repeat (first | apply Kd.R_alloc | apply Kd.R_drewN | apply Kd.R_drew)); exact HO339.out) hb); have n2_ := Aside0.mk (Kd.R_below (by (with_reducible repeat (first | apply Kd.R_alloc | apply Kd.R_drewN | apply Kd.R_drew)); exact HO342.out) hb); have n3_ := Aside0.mk (blk_below (g := gb291) (o := .cells #[.int .i64 a0_0, .slice A0_1 l0_1.length c0_1, .slice A0_2 l0_2.length c0_2, .slice A0_3 l0_3.length c0_3] 35 (0, 0)) (by (with_reducible repeat (first | refine blk_drewN ?_ _ | refine blk_drew ?_ | refine blk_alloc ?_ _)); exact BK291.out) hb); have n4_ := Aside0.mk (blk_below (g := gb317) (o := .cells #[.int .i64 x318000_3, .slice Ao167 x318001_3.length co167, .slice Ao168 x318002_3.length co168, .slice Ao169 x318003_3.length co169] 27 (0, 0)) (by (with_reducible repeat (first | refine blk_drewN ?_ _ | refine blk_drew ?_ | refine blk_alloc ?_ _)); exact BK317.out) hb); have n5_ := Aside0.mk (below_step (by repeat (first | (with_reducible first | exact HB.out | apply below_alloc | apply pw_below_drewN | apply below_drew1 | refine below_set ?_ GE291.out | refine below_set ?_ GE317.out) | exact HB.out)) hb); have n6_ := Aside0.mk (hbox); have n7_ := Aside0.mk ((by rw [hg]; exact (below_size (by repeat (first | (with_reducible first | exact HB.out | apply below_alloc | apply pw_below_drewN | apply below_drew1 | refine below_set ?_ GE291.out | refine below_set ?_ GE317.out) | exact HB.out))) : w.heap.size ≤ gb346)); have n8_ := Aside0.mk ((by rw [hg]; exact (below_size (by repeat (first | (with_reducible first | exact HB.out | apply below_alloc | apply pw_below_drewN | apply below_drew1 | refine below_set ?_ GE291.out | refine below_set ?_ GE317.out) | exact HB.out))) : w.heap.size ≤ gb346)); have n9_ := Aside0.mk ((by rw [hg]; exact Nat.ne_of_lt (blk_lt (g := gb291) (o := .cells #[.int .i64 a0_0, .slice A0_1 l0_1.length c0_1, .slice A0_2 l0_2.length c0_2, .slice A0_3 l0_3.length c0_3] 35 (0, 0)) (by (with_reducible repeat (first | refine blk_drewN ?_ _ | refine blk_drew ?_ | refine blk_alloc ?_ _)); exact BK291.out)) : gb291 ≠ gb346)); have n10_ := Aside0.mk ((by rw [hg]; exact Nat.ne_of_gt (blk_lt (g := gb291) (o := .cells #[.int .i64 a0_0, .slice A0_1 l0_1.length c0_1, .slice A0_2 l0_2.length c0_2, .slice A0_3 l0_3.length c0_3] 35 (0, 0)) (by (with_reducible repeat (first | refine blk_drewN ?_ _ | refine blk_drew ?_ | refine blk_alloc ?_ _)); exact BK291.out)) : gb346 ≠ gb291)); have n11_ := Aside0.mk ((by rw [hg]; exact Nat.ne_of_lt (blk_lt (g := gb317) (o := .cells #[.int .i64 x318000_3, .slice Ao167 x318001_3.length co167, .slice Ao168 x318002_3.length co168, .slice Ao169 x318003_3.length co169] 27 (0, 0)) (by (with_reducible repeat (first | refine blk_drewN ?_ _ | refine blk_drew ?_ | refine blk_alloc ?_ _)); exact BK317.out)) : gb317 ≠ gb346)); have n12_ := Aside0.mk ((by rw [hg]; exact Nat.ne_of_gt (blk_lt (g := gb317) (o := .cells #[.int .i64 x318000_3, .slice Ao167 x318001_3.length co167, .slice Ao168 x318002_3.length co168, .slice Ao169 x318003_3.length co169] 27 (0, 0)) (by (with_reducible repeat (first | refine blk_drewN ?_ _ | refine blk_drew ?_ | refine blk_alloc ?_ _)); exact BK317.out)) : gb346 ≠ gb317)); clear HO336; clear HO339; clear HO342; clear BK291; clear BK317; clear HB; have HO336 := n0_; have HO339 := n1_; have HO342 := n2_; have BK291 := n3_; have BK317 := n4_; have HB := n5_; have BK346 := n6_; have GW346 := n7_; have GE346 := n8_; have NB291_346 := n9_; have NB346_291 := n10_; have NB317_346 := n11_; have NB346_317 := n12_; clear n0_ n1_ n2_ n3_ n4_ n5_ n6_ n7_ n8_ n9_ n10_ n11_ n12_; clear hb hbox hg; have hnb172 := NB346_291.out; have hnc172 := NB291_346.out; have hnb173 := NB346_317.out; have hnc173 := NB317_346.out; have hcz174_0 : w171.cell? ⟨gb346, 0, none⟩ = some (.int .i64 0) := (blk_cell BK346.out 0).trans rfl; have hcz174_1 : w171.cell? ⟨gb346, 1, none⟩ = some (.slice none 0 0) := (blk_cell BK346.out 1).trans rfl; have hcz174_2 : w171.cell? ⟨gb346, 2, none⟩ = some (.slice none 0 0) := (blk_cell BK346.out 2).trans rfl; have hcz174_3 : w171.cell? ⟨gb346, 3, none⟩ = some (.slice none 0 0) := (blk_cell BK346.out 3).trans rfl; have hfz174_0 := blk_frozen BK346.out 0; have hfz174_1 := blk_frozen BK346.out 1; have hfz174_2 := blk_frozen BK346.out 2; have hfz174_3 := blk_frozen BK346.out 3; obtain ⟨Ao175, co175, eo175⟩ := Kd.R_slice HO336.out; subst eo175; obtain ⟨Ao176, co176, eo176⟩ := Kd.R_slice HO339.out; subst eo176; obtain ⟨Ao177, co177, eo177⟩ := Kd.R_slice HO342.out; subst eo177))
                        go_ret
                        exact ⟨by first | rfl | (simp [errW_none, errW_some] <;> rfl) | (simp [*, errW_none, errW_some] <;> rfl), by repeat (first | (with_reducible first | exact HB.out | apply below_alloc | apply pw_below_drewN | apply below_drew1 | refine below_set ?_ GE291.out | refine below_set ?_ GE317.out | refine below_set ?_ GE346.out) | exact HB.out)⟩
                    · replace c117 := Bool.eq_false_iff.mpr c117
                      subst c117
                      have H1 : (some false) = some r := by rw [if_neg (show ¬ (false = true) by decide)] at H; exact H
                      clear H
                      have H := H1
                      clear H1
                      obtain rfl := Option.some.inj H
                      have hnb178 := NB291_317.out
                      have hnc178 := NB317_291.out
                      have hcz179_0 : wr.cell? ⟨gb291, 0, none⟩ = some (.int .i64 a0_0) := (blk_cell BK291.out 0).trans rfl
                      have hcz179_1 : wr.cell? ⟨gb291, 1, none⟩ = some (.slice A0_1 l0_1.length c0_1) := (blk_cell BK291.out 1).trans rfl
                      have hcz179_2 : wr.cell? ⟨gb291, 2, none⟩ = some (.slice A0_2 l0_2.length c0_2) := (blk_cell BK291.out 2).trans rfl
                      have hcz179_3 : wr.cell? ⟨gb291, 3, none⟩ = some (.slice A0_3 l0_3.length c0_3) := (blk_cell BK291.out 3).trans rfl
                      have hfz179_0 := blk_frozen BK291.out 0
                      have hfz179_1 := blk_frozen BK291.out 1
                      have hfz179_2 := blk_frozen BK291.out 2
                      have hfz179_3 := blk_frozen BK291.out 3
                      have hcz180_0 : wr.cell? ⟨gb317, 0, none⟩ = some (.int .i64 x318000_3) := (blk_cell BK317.out 0).trans rfl
                      have hcz180_1 : wr.cell? ⟨gb317, 1, none⟩ = some (u318001) := (blk_cell BK317.out 1).trans rfl
                      have hcz180_2 : wr.cell? ⟨gb317, 2, none⟩ = some (u318002) := (blk_cell BK317.out 2).trans rfl
                      have hcz180_3 : wr.cell? ⟨gb317, 3, none⟩ = some (u318003) := (blk_cell BK317.out 3).trans rfl
                      have hfz180_0 := blk_frozen BK317.out 0
                      have hfz180_1 := blk_frozen BK317.out 1
                      have hfz180_2 := blk_frozen BK317.out 2
                      have hfz180_3 := blk_frozen BK317.out 3
                      obtain ⟨Ao181, co181, eo181⟩ := Kd.R_slice HO_318001.out
                      subst eo181
                      obtain ⟨Ao182, co182, eo182⟩ := Kd.R_slice HO_318002.out
                      subst eo182
                      obtain ⟨Ao183, co183, eo183⟩ := Kd.R_slice HO_318003.out
                      subst eo183
                      go_wp2_with (first | ((with_reducible refine gate_callee (f := 16) rfl ?_); refine goesL_ (some 88) rfl rfl Try.func16 (by kernel_rfl) rfl #[.agg #[.int .i64 x318000_3, .slice Ao181 x318001_3.length co181, .slice Ao182 x318002_3.length co182, .slice Ao183 x318003_3.length co183], .int .i64 1000] rfl (by (try simp only [List.map_toArray, List.map_cons, List.map_nil]); first | done | rfl | (simp only [List.length_drop, List.length_take]; rfl)) ?_; (with_reducible refine (box_Recv.calls k3 x318000_3 (fun k_ => some k_ = (.slice Ao181 x318001_3.length co181 : Value).ownBlock) (.slice Ao181 x318001_3.length co181) x318001_3 (fun k_ => some k_ = (.slice Ao182 x318002_3.length co182 : Value).ownBlock) (.slice Ao182 x318002_3.length co182) x318002_3 (fun k_ => some k_ = (.slice Ao183 x318003_3.length co183 : Value).ownBlock) (.slice Ao183 x318003_3.length co183) x318003_3 1000 t333 t334 t337 t340 t343 t344 t345 w _ ?side1 ?side2 ?side3 ?side4 A116.out).mono ?_); (case side1 => repeat (first | (with_reducible first | exact HB.out | apply below_alloc | apply pw_below_drewN | apply below_drew1 | refine below_set ?_ GE291.out | refine below_set ?_ GE317.out) | exact HB.out)); (case side2 => exact Kd.R_tight rfl HO_318001.out); (case side3 => exact Kd.R_tight rfl HO_318002.out); (case side4 => exact Kd.R_tight rfl HO_318003.out); rintro e w184 ⟨v335, v338, v341, rfl, ho0, ho1, ho2, hb, hkp⟩; refine ⟨_, rfl, ?_⟩; have n0_ := Aside0.mk (blk_kept (by (with_reducible repeat (first | refine blk_drewN ?_ _ | refine blk_drew ?_ | refine blk_alloc ?_ _)); exact BK291.out) hkp (fun hs_ => Or.elim hs_ (fun e_ => (fun e_ => (Kd.R_ne HO_318001.out BK291.out (by decide)) e_) e_) (fun e_ => Or.elim e_ (fun e_ => (fun e_ => (Kd.R_ne HO_318002.out BK291.out (by decide)) e_) e_) (fun e_ => (fun e_ => (Kd.R_ne HO_318003.out BK291.out (by decide)) e_) e_)))); have n1_ := Aside0.mk (blk_kept (by (with_reducible repeat (first | refine blk_drewN ?_ _ | refine blk_drew ?_ | refine blk_alloc ?_ _)); exact BK317.out) hkp (fun hs_ => Or.elim hs_ (fun e_ => (fun e_ => (Kd.R_ne HO_318001.out BK317.out (by decide)) e_) e_) (fun e_ => Or.elim e_ (fun e_ => (fun e_ => (Kd.R_ne HO_318002.out BK317.out (by decide)) e_) e_) (fun e_ => (fun e_ => (Kd.R_ne HO_318003.out BK317.out (by decide)) e_) e_)))); have n2_ := Aside0.mk (Kd.R_mono (ok' := fun k_ => True) ho0 (fun k_ hk_ => trivial)); have n3_ := Aside0.mk (Kd.R_mono (ok' := fun k_ => True) ho1 (fun k_ hk_ => trivial)); have n4_ := Aside0.mk (Kd.R_mono (ok' := fun k_ => True) ho2 (fun k_ hk_ => trivial)); have n5_ := Aside0.mk (hb); clear BK291; clear BK317; clear HB; clear HO_318001; clear HO_318002; clear HO_318003; have BK291 := n0_; have BK317 := n1_; have HO336 := n2_; have HO339 := n3_; have HO342 := n4_; have HB := n5_; clear n0_ n1_ n2_ n3_ n4_ n5_; (try clear hb); (try clear hkp); (try clear ho0); (try clear ho1); (try clear ho2)) | ((with_reducible refine gate_dst (N := 14) rfl ?_); (try (refine gate_guard (by rfl) ?_; dsimp only)); refine box_event ?hg (N := 14) ?hd (cs := #[.int .i64 0, .slice none 0 0, .slice none 0 0, .slice none 0 0]) (t := 27) ?hr ?_; (case hd => rfl); (case hg => rfl); (case hr => first | (go_simp; done) | (go_simp; rfl)); intro gb346 hg w185 hbox hb; have n0_ := Aside0.mk (Kd.R_below (by (with_reducible repeat (first | apply Kd.R_alloc | apply Kd.R_drewN | apply Kd.R_drew)); exact HO336.out) hb); have n1_ := Aside0.mk (Kd.R_below (by (with_reducible repeat (first | apply Kd.R_alloc | apply Kd.R_drewN | apply Kd.R_drew)); exact HO339.out) hb); have n2_ := Aside0.mk (Kd.R_below (by (with_reducible repeat (first | apply Kd.R_alloc | apply Kd.R_drewN | apply Kd.R_drew)); exact HO342.out) hb); have n3_ := Aside0.mk (blk_below (g := gb291) (o := .cells #[.int .i64 a0_0, .slice A0_1 l0_1.length c0_1, .slice A0_2 l0_2.length c0_2, .slice A0_3 l0_3.length c0_3] 35 (0, 0)) (by (with_reducible repeat (first | refine blk_drewN ?_ _ | refine blk_drew ?_ | refine blk_alloc ?_ _)); exact BK291.out) hb); have n4_ := Aside0.mk (blk_below (g := gb317) (o := .cells #[.int .i64 x318000_3, .slice Ao181 x318001_3.length co181, .slice Ao182 x318002_3.length co182, .slice Ao183 x318003_3.length co183] 27 (0, 0)) (by (with_reducible repeat (first | refine blk_drewN ?_ _ | refine blk_drew ?_ | refine blk_alloc ?_ _)); exact BK317.out) hb); have n5_ := Aside0.mk (below_step (by repeat (first | (with_reducible first | exact HB.out | apply below_alloc | apply pw_below_drewN | apply below_drew1 | refine below_set ?_ GE291.out | refine below_set ?_ GE317.out) | exact HB.out)) hb); have n6_ := Aside0.mk (hbox); have n7_ := Aside0.mk ((by rw [hg]; exact (below_size (by repeat (first | (with_reducible first | exact HB.out | apply below_alloc | apply pw_below_drewN | apply below_drew1 | refine below_set ?_ GE291.out | refine below_set ?_ GE317.out) | exact HB.out))) : w.heap.size ≤ gb346)); have n8_ := Aside0.mk ((by rw [hg]; exact (below_size (by repeat (first | (with_reducible first | exact HB.out | apply below_alloc | apply pw_below_drewN | apply below_drew1 | refine below_set ?_ GE291.out | refine below_set ?_ GE317.out) | exact HB.out))) : w.heap.size ≤ gb346)); have n9_ := Aside0.mk ((by rw [hg]; exact Nat.ne_of_lt (blk_lt (g := gb291) (o := .cells #[.int .i64 a0_0, .slice A0_1 l0_1.length c0_1, .slice A0_2 l0_2.length c0_2, .slice A0_3 l0_3.length c0_3] 35 (0, 0)) (by (with_reducible repeat (first | refine blk_drewN ?_ _ | refine blk_drew ?_ | refine blk_alloc ?_ _)); exact BK291.out)) : gb291 ≠ gb346)); have n10_ := Aside0.mk ((by rw [hg]; exact Nat.ne_of_gt (blk_lt (g := gb291) (o := .cells #[.int .i64 a0_0, .slice A0_1 l0_1.length c0_1, .slice A0_2 l0_2.length c0_2, .slice A0_3 l0_3.length c0_3] 35 (0, 0)) (by (with_reducible repeat (first | refine blk_drewN ?_ _ | refine blk_drew ?_ | refine blk_alloc ?_ _)); exact BK291.out)) : gb346 ≠ gb291)); have n11_ := Aside0.mk ((by rw [hg]; exact Nat.ne_of_lt (blk_lt (g := gb317) (o := .cells #[.int .i64 x318000_3, .slice Ao181 x318001_3.length co181, .slice Ao182 x318002_3.length co182, .slice Ao183 x318003_3.length co183] 27 (0, 0)) (by (with_reducible repeat (first | refine blk_drewN ?_ _ | refine blk_drew ?_ | refine blk_alloc ?_ _)); exact BK317.out)) : gb317 ≠ gb346)); have n12_ := Aside0.mk ((by rw [hg]; exact Nat.ne_of_gt (blk_lt (g := gb317) (o := .cells #[.int .i64 x318000_3, .slice Ao181 x318001_3.length co181, .slice Ao182 x318002_3.length co182, .slice Ao183 x318003_3.length co183] 27 (0, 0)) (by (with_reducible repeat (first | refine blk_drewN ?_ _ | refine blk_drew ?_ | refine blk_alloc ?_ _)); exact BK317.out)) : gb346 ≠ gb317)); clear HO336; clear HO339; clear HO342; clear BK291; clear BK317; clear HB; have HO336 := n0_; have HO339 := n1_; have HO342 := n2_; have BK291 := n3_; have BK317 := n4_; have HB := n5_; have BK346 := n6_; have GW346 := n7_; have GE346 := n8_; have NB291_346 := n9_; have NB346_291 := n10_; have NB317_346 := n11_; have NB346_317 := n12_; clear n0_ n1_ n2_ n3_ n4_ n5_ n6_ n7_ n8_ n9_ n10_ n11_ n12_; clear hb hbox hg; have hnb186 := NB346_291.out; have hnc186 := NB291_346.out; have hnb187 := NB346_317.out; have hnc187 := NB317_346.out; have hcz188_0 : w185.cell? ⟨gb346, 0, none⟩ = some (.int .i64 0) := (blk_cell BK346.out 0).trans rfl; have hcz188_1 : w185.cell? ⟨gb346, 1, none⟩ = some (.slice none 0 0) := (blk_cell BK346.out 1).trans rfl; have hcz188_2 : w185.cell? ⟨gb346, 2, none⟩ = some (.slice none 0 0) := (blk_cell BK346.out 2).trans rfl; have hcz188_3 : w185.cell? ⟨gb346, 3, none⟩ = some (.slice none 0 0) := (blk_cell BK346.out 3).trans rfl; have hfz188_0 := blk_frozen BK346.out 0; have hfz188_1 := blk_frozen BK346.out 1; have hfz188_2 := blk_frozen BK346.out 2; have hfz188_3 := blk_frozen BK346.out 3; obtain ⟨Ao189, co189, eo189⟩ := Kd.R_slice HO336.out; subst eo189; obtain ⟨Ao190, co190, eo190⟩ := Kd.R_slice HO339.out; subst eo190; obtain ⟨Ao191, co191, eo191⟩ := Kd.R_slice HO342.out; subst eo191))
                      go_ret
                      exact ⟨by first | rfl | (simp [errW_none, errW_some] <;> rfl) | (simp [*, errW_none, errW_some] <;> rfl), by repeat (first | (with_reducible first | exact HB.out | apply below_alloc | apply pw_below_drewN | apply below_drew1 | refine below_set ?_ GE291.out | refine below_set ?_ GE317.out | refine below_set ?_ GE346.out) | exact HB.out)⟩

end Go.Proofs.Ytibkpacjijbblaa.QBox
