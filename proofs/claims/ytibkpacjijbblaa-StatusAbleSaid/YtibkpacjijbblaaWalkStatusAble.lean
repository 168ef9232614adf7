/- The walk of the law StatusAble: it tells true of every two numbers. -/
import Derived.Test.YtibkpacjijbblaaQStatusx3
import Derived.Test.YtibkpacjijbblaaPlainStatus
namespace Go.Proofs.Ytibkpacjijbblaa.QStatus
open Go.RowKit Go.Proofs.YtibkpacjijbblaaW.PrintWords Go.Proofs.YtibkpacjijbblaaW.PrintLast Go.Proofs.YtibkpacjijbblaaW.PrintMore
attribute [local go_sem] max2_int min2_int max_two min_two max_three min_three max_four min_four   -- for this text's walks alone
set_option linter.unusedVariables false
set_option linter.unusedSimpArgs false

theorem able_f (a : Int) : status_Able.f a = some (decide (a = 1) || decide (a = 2)) := by
  unfold status_Able.f
  by_cases h : a = 1
  · subst h; rfl
  · rw [if_neg h, decide_eq_false h]; by_cases h2 : a = 2 <;> simp [h2]
theorem six (a : Int) (h0 : 0 ≤ a) (h1 : a ≤ 255) : Int.tmod a 6 = 0 ∨ Int.tmod a 6 = 1 ∨ Int.tmod a 6 = 2 ∨ Int.tmod a 6 = 3 ∨ Int.tmod a 6 = 4 ∨ Int.tmod a 6 = 5 := by
  have : a = ((a.toNat : Nat) : Int) := by omega
  rw [this]
  have e : Int.tmod ((a.toNat : Nat) : Int) 6 = ((a.toNat % 6 : Nat) : Int) := rfl
  rw [e]; omega
set_option maxHeartbeats 4000000 in
set_option maxRecDepth 100000 in
theorem able_calls0 (a b y : Int) (hx : Int.tmod a 6 = 0) (hy : Int.tmod b 6 = y) (cy : y = 0 ∨ y = 1 ∨ y = 2 ∨ y = 3 ∨ y = 4 ∨ y = 5) (w : World) :
    Calls Try.prog 11 #[.int .u8 a, .int .u8 b] w fun e w' => e = .returned (.bool true) ∧ Below w.heap.size w w' := by
  have HB := Aside0.mk (Below.refl w.heap.size w)
  have S := Aside0.mk (Pure.shown_f 100 (by omega))
  have A1 := Aside0.mk (able_f 0)
  have key : ∀ m p, status_May.f 1 0 y = some m → status_Able.f y = some p → (m = Pure.mayB 0 y) → (p = (decide (y = 1) || decide (y = 2))) → True := fun _ _ _ _ _ _ => trivial
  clear key
  rcases cy with rfl | rfl | rfl | rfl | rfl | rfl
  · have M : Aside0 (status_May.f 1 0 0 = some false) := ⟨Pure.may_f 1 0 0 (by omega)⟩
    have A2 := Aside0.mk (able_f 0)
    have b1 : (decide ((0 : Int) = 1) || decide ((0 : Int) = 2)) = false := by decide
    have b2 : (decide ((0 : Int) = 1) || decide ((0 : Int) = 2)) = false := by decide
    rw [b1] at A1
    rw [b2] at A2
    clear b1 b2
    go_enter Try.func11, Try.ntmps11
    go_wp2_with (first | (go_at_call 20; (with_reducible refine (catafalquelaw09_shown.calls 100 true _ S.out).mono ?_); rintro e w1 ⟨rfl, hb⟩; (have n0_ := Aside0.mk (below_step (by repeat (first | (with_reducible first | exact HB.out | apply below_alloc | apply pw_below_drewN | apply below_drew1) | exact HB.out)) hb)); clear HB hb; have HB := n0_; clear n0_) | (go_at_call 21; (with_reducible refine (status_May.calls 1 _ _ _ _ M.out).mono ?_); rintro e w' ⟨rfl, ⟨nd, rfl⟩⟩) | (go_at_call 27; (with_reducible refine (status_Able.calls _ _ _ A1.out).mono ?_); rintro e w' ⟨rfl, ⟨nd, rfl⟩⟩) | (go_at_call 27; (with_reducible refine (status_Able.calls _ _ _ A2.out).mono ?_); rintro e w' ⟨rfl, ⟨nd, rfl⟩⟩))
    all_goals first | (rename_i h1_ h2_; cases h1_; done) | (go_ret; exact ⟨by first | rfl | (simp; done) | (simp [*]; done), by repeat (first | (with_reducible first | exact HB.out | apply below_alloc | apply pw_below_drewN | apply below_drew1) | exact HB.out)⟩)
  · have M : Aside0 (status_May.f 1 0 1 = some true) := ⟨Pure.may_f 1 0 1 (by omega)⟩
    have A2 := Aside0.mk (able_f 1)
    have b1 : (decide ((0 : Int) = 1) || decide ((0 : Int) = 2)) = false := by decide
    have b2 : (decide ((1 : Int) = 1) || decide ((1 : Int) = 2)) = true := by decide
    rw [b1] at A1
    rw [b2] at A2
    clear b1 b2
    go_enter Try.func11, Try.ntmps11
    go_wp2_with (first | (go_at_call 20; (with_reducible refine (catafalquelaw09_shown.calls 100 true _ S.out).mono ?_); rintro e w1 ⟨rfl, hb⟩; (have n0_ := Aside0.mk (below_step (by repeat (first | (with_reducible first | exact HB.out | apply below_alloc | apply pw_below_drewN | apply below_drew1) | exact HB.out)) hb)); clear HB hb; have HB := n0_; clear n0_) | (go_at_call 21; (with_reducible refine (status_May.calls 1 _ _ _ _ M.out).mono ?_); rintro e w' ⟨rfl, ⟨nd, rfl⟩⟩) | (go_at_call 27; (with_reducible refine (status_Able.calls _ _ _ A1.out).mono ?_); rintro e w' ⟨rfl, ⟨nd, rfl⟩⟩) | (go_at_call 27; (with_reducible refine (status_Able.calls _ _ _ A2.out).mono ?_); rintro e w' ⟨rfl, ⟨nd, rfl⟩⟩))
    all_goals first | (rename_i h1_ h2_; cases h1_; done) | (go_ret; exact ⟨by first | rfl | (simp; done) | (simp [*]; done), by repeat (first | (with_reducible first | exact HB.out | apply below_alloc | apply pw_below_drewN | apply below_drew1) | exact HB.out)⟩)
  · have M : Aside0 (status_May.f 1 0 2 = some false) := ⟨Pure.may_f 1 0 2 (by omega)⟩
    have A2 := Aside0.mk (able_f 2)
    have b1 : (decide ((0 : Int) = 1) || decide ((0 : Int) = 2)) = false := by decide
    have b2 : (decide ((2 : Int) = 1) || decide ((2 : Int) = 2)) = true := by decide
    rw [b1] at A1
    rw [b2] at A2
    clear b1 b2
    go_enter Try.func11, Try.ntmps11
    go_wp2_with (first | (go_at_call 20; (with_reducible refine (catafalquelaw09_shown.calls 100 true _ S.out).mono ?_); rintro e w1 ⟨rfl, hb⟩; (have n0_ := Aside0.mk (below_step (by repeat (first | (with_reducible first | exact HB.out | apply below_alloc | apply pw_below_drewN | apply below_drew1) | exact HB.out)) hb)); clear HB hb; have HB := n0_; clear n0_) | (go_at_call 21; (with_reducible refine (status_May.calls 1 _ _ _ _ M.out).mono ?_); rintro e w' ⟨rfl, ⟨nd, rfl⟩⟩) | (go_at_call 27; (with_reducible refine (status_Able.calls _ _ _ A1.out).mono ?_); rintro e w' ⟨rfl, ⟨nd, rfl⟩⟩) | (go_at_call 27; (with_reducible refine (status_Able.calls _ _ _ A2.out).mono ?_); rintro e w' ⟨rfl, ⟨nd, rfl⟩⟩))
    all_goals first | (rename_i h1_ h2_; cases h1_; done) | (go_ret; exact ⟨by first | rfl | (simp; done) | (simp [*]; done), by repeat (first | (with_reducible first | exact HB.out | apply below_alloc | apply pw_below_drewN | apply below_drew1) | exact HB.out)⟩)
  · have M : Aside0 (status_May.f 1 0 3 = some false) := ⟨Pure.may_f 1 0 3 (by omega)⟩
    have A2 := Aside0.mk (able_f 3)
    have b1 : (decide ((0 : Int) = 1) || decide ((0 : Int) = 2)) = false := by decide
    have b2 : (decide ((3 : Int) = 1) || decide ((3 : Int) = 2)) = false := by decide
    rw [b1] at A1
    rw [b2] at A2
    clear b1 b2
    go_enter Try.func11, Try.ntmps11
    go_wp2_with (first | (go_at_call 20; (with_reducible refine (catafalquelaw09_shown.calls 100 true _ S.out).mono ?_); rintro e w1 ⟨rfl, hb⟩; (have n0_ := Aside0.mk (below_step (by repeat (first | (with_reducible first | exact HB.out | apply below_alloc | apply pw_below_drewN | apply below_drew1) | exact HB.out)) hb)); clear HB hb; have HB := n0_; clear n0_) | (go_at_call 21; (with_reducible refine (status_May.calls 1 _ _ _ _ M.out).mono ?_); rintro e w' ⟨rfl, ⟨nd, rfl⟩⟩) | (go_at_call 27; (with_reducible refine (status_Able.calls _ _ _ A1.out).mono ?_); rintro e w' ⟨rfl, ⟨nd, rfl⟩⟩) | (go_at_call 27; (with_reducible refine (status_Able.calls _ _ _ A2.out).mono ?_); rintro e w' ⟨rfl, ⟨nd, rfl⟩⟩))
    all_goals first | (rename_i h1_ h2_; cases h1_; done) | (go_ret; exact ⟨by first | rfl | (simp; done) | (simp [*]; done), by repeat (first | (with_reducible first | exact HB.out | apply below_alloc | apply pw_below_drewN | apply below_drew1) | exact HB.out)⟩)
  · have M : Aside0 (status_May.f 1 0 4 = some false) := ⟨Pure.may_f 1 0 4 (by omega)⟩
    have A2 := Aside0.mk (able_f 4)
    have b1 : (decide ((0 : Int) = 1) || decide ((0 : Int) = 2)) = false := by decide
    have b2 : (decide ((4 : Int) = 1) || decide ((4 : Int) = 2)) = false := by decide
    rw [b1] at A1
    rw [b2] at A2
    clear b1 b2
    go_enter Try.func11, Try.ntmps11
    go_wp2_with (first | (go_at_call 20; (with_reducible refine (catafalquelaw09_shown.calls 100 true _ S.out).mono ?_); rintro e w1 ⟨rfl, hb⟩; (have n0_ := Aside0.mk (below_step (by repeat (first | (with_reducible first | exact HB.out | apply below_alloc | apply pw_below_drewN | apply below_drew1) | exact HB.out)) hb)); clear HB hb; have HB := n0_; clear n0_) | (go_at_call 21; (with_reducible refine (status_May.calls 1 _ _ _ _ M.out).mono ?_); rintro e w' ⟨rfl, ⟨nd, rfl⟩⟩) | (go_at_call 27; (with_reducible refine (status_Able.calls _ _ _ A1.out).mono ?_); rintro e w' ⟨rfl, ⟨nd, rfl⟩⟩) | (go_at_call 27; (with_reducible refine (status_Able.calls _ _ _ A2.out).mono ?_); rintro e w' ⟨rfl, ⟨nd, rfl⟩⟩))
    all_goals first | (rename_i h1_ h2_; cases h1_; done) | (go_ret; exact ⟨by first | rfl | (simp; done) | (simp [*]; done), by repeat (first | (with_reducible first | exact HB.out | apply below_alloc | apply pw_below_drewN | apply below_drew1) | exact HB.out)⟩)
  · have M : Aside0 (status_May.f 1 0 5 = some false) := ⟨Pure.may_f 1 0 5 (by omega)⟩
    have A2 := Aside0.mk (able_f 5)
    have b1 : (decide ((0 : Int) = 1) || decide ((0 : Int) = 2)) = false := by decide
    have b2 : (decide ((5 : Int) = 1) || decide ((5 : Int) = 2)) = false := by decide
    rw [b1] at A1
    rw [b2] at A2
    clear b1 b2
    go_enter Try.func11, Try.ntmps11
    go_wp2_with (first | (go_at_call 20; (with_reducible refine (catafalquelaw09_shown.calls 100 true _ S.out).mono ?_); rintro e w1 ⟨rfl, hb⟩; (have n0_ := Aside0.mk (below_step (by repeat (first | (with_reducible first | exact HB.out | apply below_alloc | apply pw_below_drewN | apply below_drew1) | exact HB.out)) hb)); clear HB hb; have HB := n0_; clear n0_) | (go_at_call 21; (with_reducible refine (status_May.calls 1 _ _ _ _ M.out).mono ?_); rintro e w' ⟨rfl, ⟨nd, rfl⟩⟩) | (go_at_call 27; (with_reducible refine (status_Able.calls _ _ _ A1.out).mono ?_); rintro e w' ⟨rfl, ⟨nd, rfl⟩⟩) | (go_at_call 27; (with_reducible refine (status_Able.calls _ _ _ A2.out).mono ?_); rintro e w' ⟨rfl, ⟨nd, rfl⟩⟩))
    all_goals first | (rename_i h1_ h2_; cases h1_; done) | (go_ret; exact ⟨by first | rfl | (simp; done) | (simp [*]; done), by repeat (first | (with_reducible first | exact HB.out | apply below_alloc | apply pw_below_drewN | apply below_drew1) | exact HB.out)⟩)

set_option maxHeartbeats 4000000 in
set_option maxRecDepth 100000 in
theorem able_calls1 (a b y : Int) (hx : Int.tmod a 6 = 1) (hy : Int.tmod b 6 = y) (cy : y = 0 ∨ y = 1 ∨ y = 2 ∨ y = 3 ∨ y = 4 ∨ y = 5) (w : World) :
    Calls Try.prog 11 #[.int .u8 a, .int .u8 b] w fun e w' => e = .returned (.bool true) ∧ Below w.heap.size w w' := by
  have HB := Aside0.mk (Below.refl w.heap.size w)
  have S := Aside0.mk (Pure.shown_f 100 (by omega))
  have A1 := Aside0.mk (able_f 1)
  have key : ∀ m p, status_May.f 1 1 y = some m → status_Able.f y = some p → (m = Pure.mayB 1 y) → (p = (decide (y = 1) || decide (y = 2))) → True := fun _ _ _ _ _ _ => trivial
  clear key
  rcases cy with rfl | rfl | rfl | rfl | rfl | rfl
  · have M : Aside0 (status_May.f 1 1 0 = some false) := ⟨Pure.may_f 1 1 0 (by omega)⟩
    have A2 := Aside0.mk (able_f 0)
    have b1 : (decide ((1 : Int) = 1) || decide ((1 : Int) = 2)) = true := by decide
    have b2 : (decide ((0 : Int) = 1) || decide ((0 : Int) = 2)) = false := by decide
    rw [b1] at A1
    rw [b2] at A2
    clear b1 b2
    go_enter Try.func11, Try.ntmps11
    go_wp2_with (first | (go_at_call 20; (with_reducible refine (catafalquelaw09_shown.calls 100 true _ S.out).mono ?_); rintro e w1 ⟨rfl, hb⟩; (have n0_ := Aside0.mk (below_step (by repeat (first | (with_reducible first | exact HB.out | apply below_alloc | apply pw_below_drewN | apply below_drew1) | exact HB.out)) hb)); clear HB hb; have HB := n0_; clear n0_) | (go_at_call 21; (with_reducible refine (status_May.calls 1 _ _ _ _ M.out).mono ?_); rintro e w' ⟨rfl, ⟨nd, rfl⟩⟩) | (go_at_call 27; (with_reducible refine (status_Able.calls _ _ _ A1.out).mono ?_); rintro e w' ⟨rfl, ⟨nd, rfl⟩⟩) | (go_at_call 27; (with_reducible refine (status_Able.calls _ _ _ A2.out).mono ?_); rintro e w' ⟨rfl, ⟨nd, rfl⟩⟩))
    all_goals first | (rename_i h1_ h2_; cases h1_; done) | (go_ret; exact ⟨by first | rfl | (simp; done) | (simp [*]; done), by repeat (first | (with_reducible first | exact HB.out | apply below_alloc | apply pw_below_drewN | apply below_drew1) | exact HB.out)⟩)
  · have M : Aside0 (status_May.f 1 1 1 = some false) := ⟨Pure.may_f 1 1 1 (by omega)⟩
    have A2 := Aside0.mk (able_f 1)
    have b1 : (decide ((1 : Int) = 1) || decide ((1 : Int) = 2)) = true := by decide
    have b2 : (decide ((1 : Int) = 1) || decide ((1 : Int) = 2)) = true := by decide
    rw [b1] at A1
    rw [b2] at A2
    clear b1 b2
    go_enter Try.func11, Try.ntmps11
    go_wp2_with (first | (go_at_call 20; (with_reducible refine (catafalquelaw09_shown.calls 100 true _ S.out).mono ?_); rintro e w1 ⟨rfl, hb⟩; (have n0_ := Aside0.mk (below_step (by repeat (first | (with_reducible first | exact HB.out | apply below_alloc | apply pw_below_drewN | apply below_drew1) | exact HB.out)) hb)); clear HB hb; have HB := n0_; clear n0_) | (go_at_call 21; (with_reducible refine (status_May.calls 1 _ _ _ _ M.out).mono ?_); rintro e w' ⟨rfl, ⟨nd, rfl⟩⟩) | (go_at_call 27; (with_reducible refine (status_Able.calls _ _ _ A1.out).mono ?_); rintro e w' ⟨rfl, ⟨nd, rfl⟩⟩) | (go_at_call 27; (with_reducible refine (status_Able.calls _ _ _ A2.out).mono ?_); rintro e w' ⟨rfl, ⟨nd, rfl⟩⟩))
    all_goals first | (rename_i h1_ h2_; cases h1_; done) | (go_ret; exact ⟨by first | rfl | (simp; done) | (simp [*]; done), by repeat (first | (with_reducible first | exact HB.out | apply below_alloc | apply pw_below_drewN | apply below_drew1) | exact HB.out)⟩)
  · have M : Aside0 (status_May.f 1 1 2 = some true) := ⟨Pure.may_f 1 1 2 (by omega)⟩
    have A2 := Aside0.mk (able_f 2)
    have b1 : (decide ((1 : Int) = 1) || decide ((1 : Int) = 2)) = true := by decide
    have b2 : (decide ((2 : Int) = 1) || decide ((2 : Int) = 2)) = true := by decide
    rw [b1] at A1
    rw [b2] at A2
    clear b1 b2
    go_enter Try.func11, Try.ntmps11
    go_wp2_with (first | (go_at_call 20; (with_reducible refine (catafalquelaw09_shown.calls 100 true _ S.out).mono ?_); rintro e w1 ⟨rfl, hb⟩; (have n0_ := Aside0.mk (below_step (by repeat (first | (with_reducible first | exact HB.out | apply below_alloc | apply pw_below_drewN | apply below_drew1) | exact HB.out)) hb)); clear HB hb; have HB := n0_; clear n0_) | (go_at_call 21; (with_reducible refine (status_May.calls 1 _ _ _ _ M.out).mono ?_); rintro e w' ⟨rfl, ⟨nd, rfl⟩⟩) | (go_at_call 27; (with_reducible refine (status_Able.calls _ _ _ A1.out).mono ?_); rintro e w' ⟨rfl, ⟨nd, rfl⟩⟩) | (go_at_call 27; (with_reducible refine (status_Able.calls _ _ _ A2.out).mono ?_); rintro e w' ⟨rfl, ⟨nd, rfl⟩⟩))
    all_goals first | (rename_i h1_ h2_; cases h1_; done) | (go_ret; exact ⟨by first | rfl | (simp; done) | (simp [*]; done), by repeat (first | (with_reducible first | exact HB.out | apply below_alloc | apply pw_below_drewN | apply below_drew1) | exact HB.out)⟩)
  · have M : Aside0 (status_May.f 1 1 3 = some false) := ⟨Pure.may_f 1 1 3 (by omega)⟩
    have A2 := Aside0.mk (able_f 3)
    have b1 : (decide ((1 : Int) = 1) || decide ((1 : Int) = 2)) = true := by decide
    have b2 : (decide ((3 : Int) = 1) || decide ((3 : Int) = 2)) = false := by decide
    rw [b1] at A1
    rw [b2] at A2
    clear b1 b2
    go_enter Try.func11, Try.ntmps11
    go_wp2_with (first | (go_at_call 20; (with_reducible refine (catafalquelaw09_shown.calls 100 true _ S.out).mono ?_); rintro e w1 ⟨rfl, hb⟩; (have n0_ := Aside0.mk (below_step (by repeat (first | (with_reducible first | exact HB.out | apply below_alloc | apply pw_below_drewN | apply below_drew1) | exact HB.out)) hb)); clear HB hb; have HB := n0_; clear n0_) | (go_at_call 21; (with_reducible refine (status_May.calls 1 _ _ _ _ M.out).mono ?_); rintro e w' ⟨rfl, ⟨nd, rfl⟩⟩) | (go_at_call 27; (with_reducible refine (status_Able.calls _ _ _ A1.out).mono ?_); rintro e w' ⟨rfl, ⟨nd, rfl⟩⟩) | (go_at_call 27; (with_reducible refine (status_Able.calls _ _ _ A2.out).mono ?_); rintro e w' ⟨rfl, ⟨nd, rfl⟩⟩))
    all_goals first | (rename_i h1_ h2_; cases h1_; done) | (go_ret; exact ⟨by first | rfl | (simp; done) | (simp [*]; done), by repeat (first | (with_reducible first | exact HB.out | apply below_alloc | apply pw_below_drewN | apply below_drew1) | exact HB.out)⟩)
  · have M : Aside0 (status_May.f 1 1 4 = some false) := ⟨Pure.may_f 1 1 4 (by omega)⟩
    have A2 := Aside0.mk (able_f 4)
    have b1 : (decide ((1 : Int) = 1) || decide ((1 : Int) = 2)) = true := by decide
    have b2 : (decide ((4 : Int) = 1) || decide ((4 : Int) = 2)) = false := by decide
    rw [b1] at A1
    rw [b2] at A2
    clear b1 b2
    go_enter Try.func11, Try.ntmps11
    go_wp2_with (first | (go_at_call 20; (with_reducible refine (catafalquelaw09_shown.calls 100 true _ S.out).mono ?_); rintro e w1 ⟨rfl, hb⟩; (have n0_ := Aside0.mk (below_step (by repeat (first | (with_reducible first | exact HB.out | apply below_alloc | apply pw_below_drewN | apply below_drew1) | exact HB.out)) hb)); clear HB hb; have HB := n0_; clear n0_) | (go_at_call 21; (with_reducible refine (status_May.calls 1 _ _ _ _ M.out).mono ?_); rintro e w' ⟨rfl, ⟨nd, rfl⟩⟩) | (go_at_call 27; (with_reducible refine (status_Able.calls _ _ _ A1.out).mono ?_); rintro e w' ⟨rfl, ⟨nd, rfl⟩⟩) | (go_at_call 27; (with_reducible refine (status_Able.calls _ _ _ A2.out).mono ?_); rintro e w' ⟨rfl, ⟨nd, rfl⟩⟩))
    all_goals first | (rename_i h1_ h2_; cases h1_; done) | (go_ret; exact ⟨by first | rfl | (simp; done) | (simp [*]; done), by repeat (first | (with_reducible first | exact HB.out | apply below_alloc | apply pw_below_drewN | apply below_drew1) | exact HB.out)⟩)
  · have M : Aside0 (status_May.f 1 1 5 = some false) := ⟨Pure.may_f 1 1 5 (by omega)⟩
    have A2 := Aside0.mk (able_f 5)
    have b1 : (decide ((1 : Int) = 1) || decide ((1 : Int) = 2)) = true := by decide
    have b2 : (decide ((5 : Int) = 1) || decide ((5 : Int) = 2)) = false := by decide
    rw [b1] at A1
    rw [b2] at A2
    clear b1 b2
    go_enter Try.func11, Try.ntmps11
    go_wp2_with (first | (go_at_call 20; (with_reducible refine (catafalquelaw09_shown.calls 100 true _ S.out).mono ?_); rintro e w1 ⟨rfl, hb⟩; (have n0_ := Aside0.mk (below_step (by repeat (first | (with_reducible first | exact HB.out | apply below_alloc | apply pw_below_drewN | apply below_drew1) | exact HB.out)) hb)); clear HB hb; have HB := n0_; clear n0_) | (go_at_call 21; (with_reducible refine (status_May.calls 1 _ _ _ _ M.out).mono ?_); rintro e w' ⟨rfl, ⟨nd, rfl⟩⟩) | (go_at_call 27; (with_reducible refine (status_Able.calls _ _ _ A1.out).mono ?_); rintro e w' ⟨rfl, ⟨nd, rfl⟩⟩) | (go_at_call 27; (with_reducible refine (status_Able.calls _ _ _ A2.out).mono ?_); rintro e w' ⟨rfl, ⟨nd, rfl⟩⟩))
    all_goals first | (rename_i h1_ h2_; cases h1_; done) | (go_ret; exact ⟨by first | rfl | (simp; done) | (simp [*]; done), by repeat (first | (with_reducible first | exact HB.out | apply below_alloc | apply pw_below_drewN | apply below_drew1) | exact HB.out)⟩)

set_option maxHeartbeats 4000000 in
set_option maxRecDepth 100000 in
theorem able_calls2 (a b y : Int) (hx : Int.tmod a 6 = 2) (hy : Int.tmod b 6 = y) (cy : y = 0 ∨ y = 1 ∨ y = 2 ∨ y = 3 ∨ y = 4 ∨ y = 5) (w : World) :
    Calls Try.prog 11 #[.int .u8 a, .int .u8 b] w fun e w' => e = .returned (.bool true) ∧ Below w.heap.size w w' := by
  have HB := Aside0.mk (Below.refl w.heap.size w)
  have S := Aside0.mk (Pure.shown_f 100 (by omega))
  have A1 := Aside0.mk (able_f 2)
  have key : ∀ m p, status_May.f 1 2 y = some m → status_Able.f y = some p → (m = Pure.mayB 2 y) → (p = (decide (y = 1) || decide (y = 2))) → True := fun _ _ _ _ _ _ => trivial
  clear key
  rcases cy with rfl | rfl | rfl | rfl | rfl | rfl
  · have M : Aside0 (status_May.f 1 2 0 = some false) := ⟨Pure.may_f 1 2 0 (by omega)⟩
    have A2 := Aside0.mk (able_f 0)
    have b1 : (decide ((2 : Int) = 1) || decide ((2 : Int) = 2)) = true := by decide
    have b2 : (decide ((0 : Int) = 1) || decide ((0 : Int) = 2)) = false := by decide
    rw [b1] at A1
    rw [b2] at A2
    clear b1 b2
    go_enter Try.func11, Try.ntmps11
    go_wp2_with (first | (go_at_call 20; (with_reducible refine (catafalquelaw09_shown.calls 100 true _ S.out).mono ?_); rintro e w1 ⟨rfl, hb⟩; (have n0_ := Aside0.mk (below_step (by repeat (first | (with_reducible first | exact HB.out | apply below_alloc | apply pw_below_drewN | apply below_drew1) | exact HB.out)) hb)); clear HB hb; have HB := n0_; clear n0_) | (go_at_call 21; (with_reducible refine (status_May.calls 1 _ _ _ _ M.out).mono ?_); rintro e w' ⟨rfl, ⟨nd, rfl⟩⟩) | (go_at_call 27; (with_reducible refine (status_Able.calls _ _ _ A1.out).mono ?_); rintro e w' ⟨rfl, ⟨nd, rfl⟩⟩) | (go_at_call 27; (with_reducible refine (status_Able.calls _ _ _ A2.out).mono ?_); rintro e w' ⟨rfl, ⟨nd, rfl⟩⟩))
    all_goals first | (rename_i h1_ h2_; cases h1_; done) | (go_ret; exact ⟨by first | rfl | (simp; done) | (simp [*]; done), by repeat (first | (with_reducible first | exact HB.out | apply below_alloc | apply pw_below_drewN | apply below_drew1) | exact HB.out)⟩)
  · have M : Aside0 (status_May.f 1 2 1 = some true) := ⟨Pure.may_f 1 2 1 (by omega)⟩
    have A2 := Aside0.mk (able_f 1)
    have b1 : (decide ((2 : Int) = 1) || decide ((2 : Int) = 2)) = true := by decide
    have b2 : (decide ((1 : Int) = 1) || decide ((1 : Int) = 2)) = true := by decide
    rw [b1] at A1
    rw [b2] at A2
    clear b1 b2
    go_enter Try.func11, Try.ntmps11
    go_wp2_with (first | (go_at_call 20; (with_reducible refine (catafalquelaw09_shown.calls 100 true _ S.out).mono ?_); rintro e w1 ⟨rfl, hb⟩; (have n0_ := Aside0.mk (below_step (by repeat (first | (with_reducible first | exact HB.out | apply below_alloc | apply pw_below_drewN | apply below_drew1) | exact HB.out)) hb)); clear HB hb; have HB := n0_; clear n0_) | (go_at_call 21; (with_reducible refine (status_May.calls 1 _ _ _ _ M.out).mono ?_); rintro e w' ⟨rfl, ⟨nd, rfl⟩⟩) | (go_at_call 27; (with_reducible refine (status_Able.calls _ _ _ A1.out).mono ?_); rintro e w' ⟨rfl, ⟨nd, rfl⟩⟩) | (go_at_call 27; (with_reducible refine (status_Able.calls _ _ _ A2.out).mono ?_); rintro e w' ⟨rfl, ⟨nd, rfl⟩⟩))
    all_goals first | (rename_i h1_ h2_; cases h1_; done) | (go_ret; exact ⟨by first | rfl | (simp; done) | (simp [*]; done), by repeat (first | (with_reducible first | exact HB.out | apply below_alloc | apply pw_below_drewN | apply below_drew1) | exact HB.out)⟩)
  · have M : Aside0 (status_May.f 1 2 2 = some false) := ⟨Pure.may_f 1 2 2 (by omega)⟩
    have A2 := Aside0.mk (able_f 2)
    have b1 : (decide ((2 : Int) = 1) || decide ((2 : Int) = 2)) = true := by decide
    have b2 : (decide ((2 : Int) = 1) || decide ((2 : Int) = 2)) = true := by decide
    rw [b1] at A1
    rw [b2] at A2
    clear b1 b2
    go_enter Try.func11, Try.ntmps11
    go_wp2_with (first | (go_at_call 20; (with_reducible refine (catafalquelaw09_shown.calls 100 true _ S.out).mono ?_); rintro e w1 ⟨rfl, hb⟩; (have n0_ := Aside0.mk (below_step (by repeat (first | (with_reducible first | exact HB.out | apply below_alloc | apply pw_below_drewN | apply below_drew1) | exact HB.out)) hb)); clear HB hb; have HB := n0_; clear n0_) | (go_at_call 21; (with_reducible refine (status_May.calls 1 _ _ _ _ M.out).mono ?_); rintro e w' ⟨rfl, ⟨nd, rfl⟩⟩) | (go_at_call 27; (with_reducible refine (status_Able.calls _ _ _ A1.out).mono ?_); rintro e w' ⟨rfl, ⟨nd, rfl⟩⟩) | (go_at_call 27; (with_reducible refine (status_Able.calls _ _ _ A2.out).mono ?_); rintro e w' ⟨rfl, ⟨nd, rfl⟩⟩))
    all_goals first | (rename_i h1_ h2_; cases h1_; done) | (go_ret; exact ⟨by first | rfl | (simp; done) | (simp [*]; done), by repeat (first | (with_reducible first | exact HB.out | apply below_alloc | apply pw_below_drewN | apply below_drew1) | exact HB.out)⟩)
  · have M : Aside0 (status_May.f 1 2 3 = some true) := ⟨Pure.may_f 1 2 3 (by omega)⟩
    have A2 := Aside0.mk (able_f 3)
    have b1 : (decide ((2 : Int) = 1) || decide ((2 : Int) = 2)) = true := by decide
    have b2 : (decide ((3 : Int) = 1) || decide ((3 : Int) = 2)) = false := by decide
    rw [b1] at A1
    rw [b2] at A2
    clear b1 b2
    go_enter Try.func11, Try.ntmps11
    go_wp2_with (first | (go_at_call 20; (with_reducible refine (catafalquelaw09_shown.calls 100 true _ S.out).mono ?_); rintro e w1 ⟨rfl, hb⟩; (have n0_ := Aside0.mk (below_step (by repeat (first | (with_reducible first | exact HB.out | apply below_alloc | apply pw_below_drewN | apply below_drew1) | exact HB.out)) hb)); clear HB hb; have HB := n0_; clear n0_) | (go_at_call 21; (with_reducible refine (status_May.calls 1 _ _ _ _ M.out).mono ?_); rintro e w' ⟨rfl, ⟨nd, rfl⟩⟩) | (go_at_call 27; (with_reducible refine (status_Able.calls _ _ _ A1.out).mono ?_); rintro e w' ⟨rfl, ⟨nd, rfl⟩⟩) | (go_at_call 27; (with_reducible refine (status_Able.calls _ _ _ A2.out).mono ?_); rintro e w' ⟨rfl, ⟨nd, rfl⟩⟩))
    all_goals first | (rename_i h1_ h2_; cases h1_; done) | (go_ret; exact ⟨by first | rfl | (simp; done) | (simp [*]; done), by repeat (first | (with_reducible first | exact HB.out | apply below_alloc | apply pw_below_drewN | apply below_drew1) | exact HB.out)⟩)
  · have M : Aside0 (status_May.f 1 2 4 = some true) := ⟨Pure.may_f 1 2 4 (by omega)⟩
    have A2 := Aside0.mk (able_f 4)
    have b1 : (decide ((2 : Int) = 1) || decide ((2 : Int) = 2)) = true := by decide
    have b2 : (decide ((4 : Int) = 1) || decide ((4 : Int) = 2)) = false := by decide
    rw [b1] at A1
    rw [b2] at A2
    clear b1 b2
    go_enter Try.func11, Try.ntmps11
    go_wp2_with (first | (go_at_call 20; (with_reducible refine (catafalquelaw09_shown.calls 100 true _ S.out).mono ?_); rintro e w1 ⟨rfl, hb⟩; (have n0_ := Aside0.mk (below_step (by repeat (first | (with_reducible first | exact HB.out | apply below_alloc | apply pw_below_drewN | apply below_drew1) | exact HB.out)) hb)); clear HB hb; have HB := n0_; clear n0_) | (go_at_call 21; (with_reducible refine (status_May.calls 1 _ _ _ _ M.out).mono ?_); rintro e w' ⟨rfl, ⟨nd, rfl⟩⟩) | (go_at_call 27; (with_reducible refine (status_Able.calls _ _ _ A1.out).mono ?_); rintro e w' ⟨rfl, ⟨nd, rfl⟩⟩) | (go_at_call 27; (with_reducible refine (status_Able.calls _ _ _ A2.out).mono ?_); rintro e w' ⟨rfl, ⟨nd, rfl⟩⟩))
    all_goals first | (rename_i h1_ h2_; cases h1_; done) | (go_ret; exact ⟨by first | rfl | (simp; done) | (simp [*]; done), by repeat (first | (with_reducible first | exact HB.out | apply below_alloc | apply pw_below_drewN | apply below_drew1) | exact HB.out)⟩)
  · have M : Aside0 (status_May.f 1 2 5 = some false) := ⟨Pure.may_f 1 2 5 (by omega)⟩
    have A2 := Aside0.mk (able_f 5)
    have b1 : (decide ((2 : Int) = 1) || decide ((2 : Int) = 2)) = true := by decide
    have b2 : (decide ((5 : Int) = 1) || decide ((5 : Int) = 2)) = false := by decide
    rw [b1] at A1
    rw [b2] at A2
    clear b1 b2
    go_enter Try.func11, Try.ntmps11
    go_wp2_with (first | (go_at_call 20; (with_reducible refine (catafalquelaw09_shown.calls 100 true _ S.out).mono ?_); rintro e w1 ⟨rfl, hb⟩; (have n0_ := Aside0.mk (below_step (by repeat (first | (with_reducible first | exact HB.out | apply below_alloc | apply pw_below_drewN | apply below_drew1) | exact HB.out)) hb)); clear HB hb; have HB := n0_; clear n0_) | (go_at_call 21; (with_reducible refine (status_May.calls 1 _ _ _ _ M.out).mono ?_); rintro e w' ⟨rfl, ⟨nd, rfl⟩⟩) | (go_at_call 27; (with_reducible refine (status_Able.calls _ _ _ A1.out).mono ?_); rintro e w' ⟨rfl, ⟨nd, rfl⟩⟩) | (go_at_call 27; (with_reducible refine (status_Able.calls _ _ _ A2.out).mono ?_); rintro e w' ⟨rfl, ⟨nd, rfl⟩⟩))
    all_goals first | (rename_i h1_ h2_; cases h1_; done) | (go_ret; exact ⟨by first | rfl | (simp; done) | (simp [*]; done), by repeat (first | (with_reducible first | exact HB.out | apply below_alloc | apply pw_below_drewN | apply below_drew1) | exact HB.out)⟩)

set_option maxHeartbeats 4000000 in
set_option maxRecDepth 100000 in
theorem able_calls3 (a b y : Int) (hx : Int.tmod a 6 = 3) (hy : Int.tmod b 6 = y) (cy : y = 0 ∨ y = 1 ∨ y = 2 ∨ y = 3 ∨ y = 4 ∨ y = 5) (w : World) :
    Calls Try.prog 11 #[.int .u8 a, .int .u8 b] w fun e w' => e = .returned (.bool true) ∧ Below w.heap.size w w' := by
  have HB := Aside0.mk (Below.refl w.heap.size w)
  have S := Aside0.mk (Pure.shown_f 100 (by omega))
  have A1 := Aside0.mk (able_f 3)
  have key : ∀ m p, status_May.f 1 3 y = some m → status_Able.f y = some p → (m = Pure.mayB 3 y) → (p = (decide (y = 1) || decide (y = 2))) → True := fun _ _ _ _ _ _ => trivial
  clear key
  rcases cy with rfl | rfl | rfl | rfl | rfl | rfl
  · have M : Aside0 (status_May.f 1 3 0 = some false) := ⟨Pure.may_f 1 3 0 (by omega)⟩
    have A2 := Aside0.mk (able_f 0)
    have b1 : (decide ((3 : Int) = 1) || decide ((3 : Int) = 2)) = false := by decide
    have b2 : (decide ((0 : Int) = 1) || decide ((0 : Int) = 2)) = false := by decide
    rw [b1] at A1
    rw [b2] at A2
    clear b1 b2
    go_enter Try.func11, Try.ntmps11
    go_wp2_with (first | (go_at_call 20; (with_reducible refine (catafalquelaw09_shown.calls 100 true _ S.out).mono ?_); rintro e w1 ⟨rfl, hb⟩; (have n0_ := Aside0.mk (below_step (by repeat (first | (with_reducible first | exact HB.out | apply below_alloc | apply pw_below_drewN | apply below_drew1) | exact HB.out)) hb)); clear HB hb; have HB := n0_; clear n0_) | (go_at_call 21; (with_reducible refine (status_May.calls 1 _ _ _ _ M.out).mono ?_); rintro e w' ⟨rfl, ⟨nd, rfl⟩⟩) | (go_at_call 27; (with_reducible refine (status_Able.calls _ _ _ A1.out).mono ?_); rintro e w' ⟨rfl, ⟨nd, rfl⟩⟩) | (go_at_call 27; (with_reducible refine (status_Able.calls _ _ _ A2.out).mono ?_); rintro e w' ⟨rfl, ⟨nd, rfl⟩⟩))
    all_goals first | (rename_i h1_ h2_; cases h1_; done) | (go_ret; exact ⟨by first | rfl | (simp; done) | (simp [*]; done), by repeat (first | (with_reducible first | exact HB.out | apply below_alloc | apply pw_below_drewN | apply below_drew1) | exact HB.out)⟩)
  · have M : Aside0 (status_May.f 1 3 1 = some true) := ⟨Pure.may_f 1 3 1 (by omega)⟩
    have A2 := Aside0.mk (able_f 1)
    have b1 : (decide ((3 : Int) = 1) || decide ((3 : Int) = 2)) = false := by decide
    have b2 : (decide ((1 : Int) = 1) || decide ((1 : Int) = 2)) = true := by decide
    rw [b1] at A1
    rw [b2] at A2
    clear b1 b2
    go_enter Try.func11, Try.ntmps11
    go_wp2_with (first | (go_at_call 20; (with_reducible refine (catafalquelaw09_shown.calls 100 true _ S.out).mono ?_); rintro e w1 ⟨rfl, hb⟩; (have n0_ := Aside0.mk (below_step (by repeat (first | (with_reducible first | exact HB.out | apply below_alloc | apply pw_below_drewN | apply below_drew1) | exact HB.out)) hb)); clear HB hb; have HB := n0_; clear n0_) | (go_at_call 21; (with_reducible refine (status_May.calls 1 _ _ _ _ M.out).mono ?_); rintro e w' ⟨rfl, ⟨nd, rfl⟩⟩) | (go_at_call 27; (with_reducible refine (status_Able.calls _ _ _ A1.out).mono ?_); rintro e w' ⟨rfl, ⟨nd, rfl⟩⟩) | (go_at_call 27; (with_reducible refine (status_Able.calls _ _ _ A2.out).mono ?_); rintro e w' ⟨rfl, ⟨nd, rfl⟩⟩))
    all_goals first | (rename_i h1_ h2_; cases h1_; done) | (go_ret; exact ⟨by first | rfl | (simp; done) | (simp [*]; done), by repeat (first | (with_reducible first | exact HB.out | apply below_alloc | apply pw_below_drewN | apply below_drew1) | exact HB.out)⟩)
  · have M : Aside0 (status_May.f 1 3 2 = some false) := ⟨Pure.may_f 1 3 2 (by omega)⟩
    have A2 := Aside0.mk (able_f 2)
    have b1 : (decide ((3 : Int) = 1) || decide ((3 : Int) = 2)) = false := by decide
    have b2 : (decide ((2 : Int) = 1) || decide ((2 : Int) = 2)) = true := by decide
    rw [b1] at A1
    rw [b2] at A2
    clear b1 b2
    go_enter Try.func11, Try.ntmps11
    go_wp2_with (first | (go_at_call 20; (with_reducible refine (catafalquelaw09_shown.calls 100 true _ S.out).mono ?_); rintro e w1 ⟨rfl, hb⟩; (have n0_ := Aside0.mk (below_step (by repeat (first | (with_reducible first | exact HB.out | apply below_alloc | apply pw_below_drewN | apply below_drew1) | exact HB.out)) hb)); clear HB hb; have HB := n0_; clear n0_) | (go_at_call 21; (with_reducible refine (status_May.calls 1 _ _ _ _ M.out).mono ?_); rintro e w' ⟨rfl, ⟨nd, rfl⟩⟩) | (go_at_call 27; (with_reducible refine (status_Able.calls _ _ _ A1.out).mono ?_); rintro e w' ⟨rfl, ⟨nd, rfl⟩⟩) | (go_at_call 27; (with_reducible refine (status_Able.calls _ _ _ A2.out).mono ?_); rintro e w' ⟨rfl, ⟨nd, rfl⟩⟩))
    all_goals first | (rename_i h1_ h2_; cases h1_; done) | (go_ret; exact ⟨by first | rfl | (simp; done) | (simp [*]; done), by repeat (first | (with_reducible first | exact HB.out | apply below_alloc | apply pw_below_drewN | apply below_drew1) | exact HB.out)⟩)
  · have M : Aside0 (status_May.f 1 3 3 = some false) := ⟨Pure.may_f 1 3 3 (by omega)⟩
    have A2 := Aside0.mk (able_f 3)
    have b1 : (decide ((3 : Int) = 1) || decide ((3 : Int) = 2)) = false := by decide
    have b2 : (decide ((3 : Int) = 1) || decide ((3 : Int) = 2)) = false := by decide
    rw [b1] at A1
    rw [b2] at A2
    clear b1 b2
    go_enter Try.func11, Try.ntmps11
    go_wp2_with (first | (go_at_call 20; (with_reducible refine (catafalquelaw09_shown.calls 100 true _ S.out).mono ?_); rintro e w1 ⟨rfl, hb⟩; (have n0_ := Aside0.mk (below_step (by repeat (first | (with_reducible first | exact HB.out | apply below_alloc | apply pw_below_drewN | apply below_drew1) | exact HB.out)) hb)); clear HB hb; have HB := n0_; clear n0_) | (go_at_call 21; (with_reducible refine (status_May.calls 1 _ _ _ _ M.out).mono ?_); rintro e w' ⟨rfl, ⟨nd, rfl⟩⟩) | (go_at_call 27; (with_reducible refine (status_Able.calls _ _ _ A1.out).mono ?_); rintro e w' ⟨rfl, ⟨nd, rfl⟩⟩) | (go_at_call 27; (with_reducible refine (status_Able.calls _ _ _ A2.out).mono ?_); rintro e w' ⟨rfl, ⟨nd, rfl⟩⟩))
    all_goals first | (rename_i h1_ h2_; cases h1_; done) | (go_ret; exact ⟨by first | rfl | (simp; done) | (simp [*]; done), by repeat (first | (with_reducible first | exact HB.out | apply below_alloc | apply pw_below_drewN | apply below_drew1) | exact HB.out)⟩)
  · have M : Aside0 (status_May.f 1 3 4 = some false) := ⟨Pure.may_f 1 3 4 (by omega)⟩
    have A2 := Aside0.mk (able_f 4)
    have b1 : (decide ((3 : Int) = 1) || decide ((3 : Int) = 2)) = false := by decide
    have b2 : (decide ((4 : Int) = 1) || decide ((4 : Int) = 2)) = false := by decide
    rw [b1] at A1
    rw [b2] at A2
    clear b1 b2
    go_enter Try.func11, Try.ntmps11
    go_wp2_with (first | (go_at_call 20; (with_reducible refine (catafalquelaw09_shown.calls 100 true _ S.out).mono ?_); rintro e w1 ⟨rfl, hb⟩; (have n0_ := Aside0.mk (below_step (by repeat (first | (with_reducible first | exact HB.out | apply below_alloc | apply pw_below_drewN | apply below_drew1) | exact HB.out)) hb)); clear HB hb; have HB := n0_; clear n0_) | (go_at_call 21; (with_reducible refine (status_May.calls 1 _ _ _ _ M.out).mono ?_); rintro e w' ⟨rfl, ⟨nd, rfl⟩⟩) | (go_at_call 27; (with_reducible refine (status_Able.calls _ _ _ A1.out).mono ?_); rintro e w' ⟨rfl, ⟨nd, rfl⟩⟩) | (go_at_call 27; (with_reducible refine (status_Able.calls _ _ _ A2.out).mono ?_); rintro e w' ⟨rfl, ⟨nd, rfl⟩⟩))
    all_goals first | (rename_i h1_ h2_; cases h1_; done) | (go_ret; exact ⟨by first | rfl | (simp; done) | (simp [*]; done), by repeat (first | (with_reducible first | exact HB.out | apply below_alloc | apply pw_below_drewN | apply below_drew1) | exact HB.out)⟩)
  · have M : Aside0 (status_May.f 1 3 5 = some false) := ⟨Pure.may_f 1 3 5 (by omega)⟩
    have A2 := Aside0.mk (able_f 5)
    have b1 : (decide ((3 : Int) = 1) || decide ((3 : Int) = 2)) = false := by decide
    have b2 : (decide ((5 : Int) = 1) || decide ((5 : Int) = 2)) = false := by decide
    rw [b1] at A1
    rw [b2] at A2
    clear b1 b2
    go_enter Try.func11, Try.ntmps11
    go_wp2_with (first | (go_at_call 20; (with_reducible refine (catafalquelaw09_shown.calls 100 true _ S.out).mono ?_); rintro e w1 ⟨rfl, hb⟩; (have n0_ := Aside0.mk (below_step (by repeat (first | (with_reducible first | exact HB.out | apply below_alloc | apply pw_below_drewN | apply below_drew1) | exact HB.out)) hb)); clear HB hb; have HB := n0_; clear n0_) | (go_at_call 21; (with_reducible refine (status_May.calls 1 _ _ _ _ M.out).mono ?_); rintro e w' ⟨rfl, ⟨nd, rfl⟩⟩) | (go_at_call 27; (with_reducible refine (status_Able.calls _ _ _ A1.out).mono ?_); rintro e w' ⟨rfl, ⟨nd, rfl⟩⟩) | (go_at_call 27; (with_reducible refine (status_Able.calls _ _ _ A2.out).mono ?_); rintro e w' ⟨rfl, ⟨nd, rfl⟩⟩))
    all_goals first | (rename_i h1_ h2_; cases h1_; done) | (go_ret; exact ⟨by first | rfl | (simp; done) | (simp [*]; done), by repeat (first | (with_reducible first | exact HB.out | apply below_alloc | apply pw_below_drewN | apply below_drew1) | exact HB.out)⟩)

set_option maxHeartbeats 4000000 in
set_option maxRecDepth 100000 in
theorem able_calls4 (a b y : Int) (hx : Int.tmod a 6 = 4) (hy : Int.tmod b 6 = y) (cy : y = 0 ∨ y = 1 ∨ y = 2 ∨ y = 3 ∨ y = 4 ∨ y = 5) (w : World) :
    Calls Try.prog 11 #[.int .u8 a, .int .u8 b] w fun e w' => e = .returned (.bool true) ∧ Below w.heap.size w w' := by
  have HB := Aside0.mk (Below.refl w.heap.size w)
  have S := Aside0.mk (Pure.shown_f 100 (by omega))
  have A1 := Aside0.mk (able_f 4)
  have key : ∀ m p, status_May.f 1 4 y = some m → status_Able.f y = some p → (m = Pure.mayB 4 y) → (p = (decide (y = 1) || decide (y = 2))) → True := fun _ _ _ _ _ _ => trivial
  clear key
  rcases cy with rfl | rfl | rfl | rfl | rfl | rfl
  · have M : Aside0 (status_May.f 1 4 0 = some true) := ⟨Pure.may_f 1 4 0 (by omega)⟩
    have A2 := Aside0.mk (able_f 0)
    have b1 : (decide ((4 : Int) = 1) || decide ((4 : Int) = 2)) = false := by decide
    have b2 : (decide ((0 : Int) = 1) || decide ((0 : Int) = 2)) = false := by decide
    rw [b1] at A1
    rw [b2] at A2
    clear b1 b2
    go_enter Try.func11, Try.ntmps11
    go_wp2_with (first | (go_at_call 20; (with_reducible refine (catafalquelaw09_shown.calls 100 true _ S.out).mono ?_); rintro e w1 ⟨rfl, hb⟩; (have n0_ := Aside0.mk (below_step (by repeat (first | (with_reducible first | exact HB.out | apply below_alloc | apply pw_below_drewN | apply below_drew1) | exact HB.out)) hb)); clear HB hb; have HB := n0_; clear n0_) | (go_at_call 21; (with_reducible refine (status_May.calls 1 _ _ _ _ M.out).mono ?_); rintro e w' ⟨rfl, ⟨nd, rfl⟩⟩) | (go_at_call 27; (with_reducible refine (status_Able.calls _ _ _ A1.out).mono ?_); rintro e w' ⟨rfl, ⟨nd, rfl⟩⟩) | (go_at_call 27; (with_reducible refine (status_Able.calls _ _ _ A2.out).mono ?_); rintro e w' ⟨rfl, ⟨nd, rfl⟩⟩))
    all_goals first | (rename_i h1_ h2_; cases h1_; done) | (go_ret; exact ⟨by first | rfl | (simp; done) | (simp [*]; done), by repeat (first | (with_reducible first | exact HB.out | apply below_alloc | apply pw_below_drewN | apply below_drew1) | exact HB.out)⟩)
  · have M : Aside0 (status_May.f 1 4 1 = some false) := ⟨Pure.may_f 1 4 1 (by omega)⟩
    have A2 := Aside0.mk (able_f 1)
    have b1 : (decide ((4 : Int) = 1) || decide ((4 : Int) = 2)) = false := by decide
    have b2 : (decide ((1 : Int) = 1) || decide ((1 : Int) = 2)) = true := by decide
    rw [b1] at A1
    rw [b2] at A2
    clear b1 b2
    go_enter Try.func11, Try.ntmps11
    go_wp2_with (first | (go_at_call 20; (with_reducible refine (catafalquelaw09_shown.calls 100 true _ S.out).mono ?_); rintro e w1 ⟨rfl, hb⟩; (have n0_ := Aside0.mk (below_step (by repeat (first | (with_reducible first | exact HB.out | apply below_alloc | apply pw_below_drewN | apply below_drew1) | exact HB.out)) hb)); clear HB hb; have HB := n0_; clear n0_) | (go_at_call 21; (with_reducible refine (status_May.calls 1 _ _ _ _ M.out).mono ?_); rintro e w' ⟨rfl, ⟨nd, rfl⟩⟩) | (go_at_call 27; (with_reducible refine (status_Able.calls _ _ _ A1.out).mono ?_); rintro e w' ⟨rfl, ⟨nd, rfl⟩⟩) | (go_at_call 27; (with_reducible refine (status_Able.calls _ _ _ A2.out).mono ?_); rintro e w' ⟨rfl, ⟨nd, rfl⟩⟩))
    all_goals first | (rename_i h1_ h2_; cases h1_; done) | (go_ret; exact ⟨by first | rfl | (simp; done) | (simp [*]; done), by repeat (first | (with_reducible first | exact HB.out | apply below_alloc | apply pw_below_drewN | apply below_drew1) | exact HB.out)⟩)
  · have M : Aside0 (status_May.f 1 4 2 = some false) := ⟨Pure.may_f 1 4 2 (by omega)⟩
    have A2 := Aside0.mk (able_f 2)
    have b1 : (decide ((4 : Int) = 1) || decide ((4 : Int) = 2)) = false := by decide
    have b2 : (decide ((2 : Int) = 1) || decide ((2 : Int) = 2)) = true := by decide
    rw [b1] at A1
    rw [b2] at A2
    clear b1 b2
    go_enter Try.func11, Try.ntmps11
    go_wp2_with (first | (go_at_call 20; (with_reducible refine (catafalquelaw09_shown.calls 100 true _ S.out).mono ?_); rintro e w1 ⟨rfl, hb⟩; (have n0_ := Aside0.mk (below_step (by repeat (first | (with_reducible first | exact HB.out | apply below_alloc | apply pw_below_drewN | apply below_drew1) | exact HB.out)) hb)); clear HB hb; have HB := n0_; clear n0_) | (go_at_call 21; (with_reducible refine (status_May.calls 1 _ _ _ _ M.out).mono ?_); rintro e w' ⟨rfl, ⟨nd, rfl⟩⟩) | (go_at_call 27; (with_reducible refine (status_Able.calls _ _ _ A1.out).mono ?_); rintro e w' ⟨rfl, ⟨nd, rfl⟩⟩) | (go_at_call 27; (with_reducible refine (status_Able.calls _ _ _ A2.out).mono ?_); rintro e w' ⟨rfl, ⟨nd, rfl⟩⟩))
    all_goals first | (rename_i h1_ h2_; cases h1_; done) | (go_ret; exact ⟨by first | rfl | (simp; done) | (simp [*]; done), by repeat (first | (with_reducible first | exact HB.out | apply below_alloc | apply pw_below_drewN | apply below_drew1) | exact HB.out)⟩)
  · have M : Aside0 (status_May.f 1 4 3 = some false) := ⟨Pure.may_f 1 4 3 (by omega)⟩
    have A2 := Aside0.mk (able_f 3)
    have b1 : (decide ((4 : Int) = 1) || decide ((4 : Int) = 2)) = false := by decide
    have b2 : (decide ((3 : Int) = 1) || decide ((3 : Int) = 2)) = false := by decide
    rw [b1] at A1
    rw [b2] at A2
    clear b1 b2
    go_enter Try.func11, Try.ntmps11
    go_wp2_with (first | (go_at_call 20; (with_reducible refine (catafalquelaw09_shown.calls 100 true _ S.out).mono ?_); rintro e w1 ⟨rfl, hb⟩; (have n0_ := Aside0.mk (below_step (by repeat (first | (with_reducible first | exact HB.out | apply below_alloc | apply pw_below_drewN | apply below_drew1) | exact HB.out)) hb)); clear HB hb; have HB := n0_; clear n0_) | (go_at_call 21; (with_reducible refine (status_May.calls 1 _ _ _ _ M.out).mono ?_); rintro e w' ⟨rfl, ⟨nd, rfl⟩⟩) | (go_at_call 27; (with_reducible refine (status_Able.calls _ _ _ A1.out).mono ?_); rintro e w' ⟨rfl, ⟨nd, rfl⟩⟩) | (go_at_call 27; (with_reducible refine (status_Able.calls _ _ _ A2.out).mono ?_); rintro e w' ⟨rfl, ⟨nd, rfl⟩⟩))
    all_goals first | (rename_i h1_ h2_; cases h1_; done) | (go_ret; exact ⟨by first | rfl | (simp; done) | (simp [*]; done), by repeat (first | (with_reducible first | exact HB.out | apply below_alloc | apply pw_below_drewN | apply below_drew1) | exact HB.out)⟩)
  · have M : Aside0 (status_May.f 1 4 4 = some false) := ⟨Pure.may_f 1 4 4 (by omega)⟩
    have A2 := Aside0.mk (able_f 4)
    have b1 : (decide ((4 : Int) = 1) || decide ((4 : Int) = 2)) = false := by decide
    have b2 : (decide ((4 : Int) = 1) || decide ((4 : Int) = 2)) = false := by decide
    rw [b1] at A1
    rw [b2] at A2
    clear b1 b2
    go_enter Try.func11, Try.ntmps11
    go_wp2_with (first | (go_at_call 20; (with_reducible refine (catafalquelaw09_shown.calls 100 true _ S.out).mono ?_); rintro e w1 ⟨rfl, hb⟩; (have n0_ := Aside0.mk (below_step (by repeat (first | (with_reducible first | exact HB.out | apply below_alloc | apply pw_below_drewN | apply below_drew1) | exact HB.out)) hb)); clear HB hb; have HB := n0_; clear n0_) | (go_at_call 21; (with_reducible refine (status_May.calls 1 _ _ _ _ M.out).mono ?_); rintro e w' ⟨rfl, ⟨nd, rfl⟩⟩) | (go_at_call 27; (with_reducible refine (status_Able.calls _ _ _ A1.out).mono ?_); rintro e w' ⟨rfl, ⟨nd, rfl⟩⟩) | (go_at_call 27; (with_reducible refine (status_Able.calls _ _ _ A2.out).mono ?_); rintro e w' ⟨rfl, ⟨nd, rfl⟩⟩))
    all_goals first | (rename_i h1_ h2_; cases h1_; done) | (go_ret; exact ⟨by first | rfl | (simp; done) | (simp [*]; done), by repeat (first | (with_reducible first | exact HB.out | apply below_alloc | apply pw_below_drewN | apply below_drew1) | exact HB.out)⟩)
  · have M : Aside0 (status_May.f 1 4 5 = some false) := ⟨Pure.may_f 1 4 5 (by omega)⟩
    have A2 := Aside0.mk (able_f 5)
    have b1 : (decide ((4 : Int) = 1) || decide ((4 : Int) = 2)) = false := by decide
    have b2 : (decide ((5 : Int) = 1) || decide ((5 : Int) = 2)) = false := by decide
    rw [b1] at A1
    rw [b2] at A2
    clear b1 b2
    go_enter Try.func11, Try.ntmps11
    go_wp2_with (first | (go_at_call 20; (with_reducible refine (catafalquelaw09_shown.calls 100 true _ S.out).mono ?_); rintro e w1 ⟨rfl, hb⟩; (have n0_ := Aside0.mk (below_step (by repeat (first | (with_reducible first | exact HB.out | apply below_alloc | apply pw_below_drewN | apply below_drew1) | exact HB.out)) hb)); clear HB hb; have HB := n0_; clear n0_) | (go_at_call 21; (with_reducible refine (status_May.calls 1 _ _ _ _ M.out).mono ?_); rintro e w' ⟨rfl, ⟨nd, rfl⟩⟩) | (go_at_call 27; (with_reducible refine (status_Able.calls _ _ _ A1.out).mono ?_); rintro e w' ⟨rfl, ⟨nd, rfl⟩⟩) | (go_at_call 27; (with_reducible refine (status_Able.calls _ _ _ A2.out).mono ?_); rintro e w' ⟨rfl, ⟨nd, rfl⟩⟩))
    all_goals first | (rename_i h1_ h2_; cases h1_; done) | (go_ret; exact ⟨by first | rfl | (simp; done) | (simp [*]; done), by repeat (first | (with_reducible first | exact HB.out | apply below_alloc | apply pw_below_drewN | apply below_drew1) | exact HB.out)⟩)

set_option maxHeartbeats 4000000 in
set_option maxRecDepth 100000 in
theorem able_calls5 (a b y : Int) (hx : Int.tmod a 6 = 5) (hy : Int.tmod b 6 = y) (cy : y = 0 ∨ y = 1 ∨ y = 2 ∨ y = 3 ∨ y = 4 ∨ y = 5) (w : World) :
    Calls Try.prog 11 #[.int .u8 a, .int .u8 b] w fun e w' => e = .returned (.bool true) ∧ Below w.heap.size w w' := by
  have HB := Aside0.mk (Below.refl w.heap.size w)
  have S := Aside0.mk (Pure.shown_f 100 (by omega))
  have A1 := Aside0.mk (able_f 5)
  have key : ∀ m p, status_May.f 1 5 y = some m → status_Able.f y = some p → (m = Pure.mayB 5 y) → (p = (decide (y = 1) || decide (y = 2))) → True := fun _ _ _ _ _ _ => trivial
  clear key
  rcases cy with rfl | rfl | rfl | rfl | rfl | rfl
  · have M : Aside0 (status_May.f 1 5 0 = some false) := ⟨Pure.may_f 1 5 0 (by omega)⟩
    have A2 := Aside0.mk (able_f 0)
    have b1 : (decide ((5 : Int) = 1) || decide ((5 : Int) = 2)) = false := by decide
    have b2 : (decide ((0 : Int) = 1) || decide ((0 : Int) = 2)) = false := by decide
    rw [b1] at A1
    rw [b2] at A2
    clear b1 b2
    go_enter Try.func11, Try.ntmps11
    go_wp2_with (first | (go_at_call 20; (with_reducible refine (catafalquelaw09_shown.calls 100 true _ S.out).mono ?_); rintro e w1 ⟨rfl, hb⟩; (have n0_ := Aside0.mk (below_step (by repeat (first | (with_reducible first | exact HB.out | apply below_alloc | apply pw_below_drewN | apply below_drew1) | exact HB.out)) hb)); clear HB hb; have HB := n0_; clear n0_) | (go_at_call 21; (with_reducible refine (status_May.calls 1 _ _ _ _ M.out).mono ?_); rintro e w' ⟨rfl, ⟨nd, rfl⟩⟩) | (go_at_call 27; (with_reducible refine (status_Able.calls _ _ _ A1.out).mono ?_); rintro e w' ⟨rfl, ⟨nd, rfl⟩⟩) | (go_at_call 27; (with_reducible refine (status_Able.calls _ _ _ A2.out).mono ?_); rintro e w' ⟨rfl, ⟨nd, rfl⟩⟩))
    all_goals first | (rename_i h1_ h2_; cases h1_; done) | (go_ret; exact ⟨by first | rfl | (simp; done) | (simp [*]; done), by repeat (first | (with_reducible first | exact HB.out | apply below_alloc | apply pw_below_drewN | apply below_drew1) | exact HB.out)⟩)
  · have M : Aside0 (status_May.f 1 5 1 = some false) := ⟨Pure.may_f 1 5 1 (by omega)⟩
    have A2 := Aside0.mk (able_f 1)
    have b1 : (decide ((5 : Int) = 1) || decide ((5 : Int) = 2)) = false := by decide
    have b2 : (decide ((1 : Int) = 1) || decide ((1 : Int) = 2)) = true := by decide
    rw [b1] at A1
    rw [b2] at A2
    clear b1 b2
    go_enter Try.func11, Try.ntmps11
    go_wp2_with (first | (go_at_call 20; (with_reducible refine (catafalquelaw09_shown.calls 100 true _ S.out).mono ?_); rintro e w1 ⟨rfl, hb⟩; (have n0_ := Aside0.mk (below_step (by repeat (first | (with_reducible first | exact HB.out | apply below_alloc | apply pw_below_drewN | apply below_drew1) | exact HB.out)) hb)); clear HB hb; have HB := n0_; clear n0_) | (go_at_call 21; (with_reducible refine (status_May.calls 1 _ _ _ _ M.out).mono ?_); rintro e w' ⟨rfl, ⟨nd, rfl⟩⟩) | (go_at_call 27; (with_reducible refine (status_Able.calls _ _ _ A1.out).mono ?_); rintro e w' ⟨rfl, ⟨nd, rfl⟩⟩) | (go_at_call 27; (with_reducible refine (status_Able.calls _ _ _ A2.out).mono ?_); rintro e w' ⟨rfl, ⟨nd, rfl⟩⟩))
    all_goals first | (rename_i h1_ h2_; cases h1_; done) | (go_ret; exact ⟨by first | rfl | (simp; done) | (simp [*]; done), by repeat (first | (with_reducible first | exact HB.out | apply below_alloc | apply pw_below_drewN | apply below_drew1) | exact HB.out)⟩)
  · have M : Aside0 (status_May.f 1 5 2 = some false) := ⟨Pure.may_f 1 5 2 (by omega)⟩
    have A2 := Aside0.mk (able_f 2)
    have b1 : (decide ((5 : Int) = 1) || decide ((5 : Int) = 2)) = false := by decide
    have b2 : (decide ((2 : Int) = 1) || decide ((2 : Int) = 2)) = true := by decide
    rw [b1] at A1
    rw [b2] at A2
    clear b1 b2
    go_enter Try.func11, Try.ntmps11
    go_wp2_with (first | (go_at_call 20; (with_reducible refine (catafalquelaw09_shown.calls 100 true _ S.out).mono ?_); rintro e w1 ⟨rfl, hb⟩; (have n0_ := Aside0.mk (below_step (by repeat (first | (with_reducible first | exact HB.out | apply below_alloc | apply pw_below_drewN | apply below_drew1) | exact HB.out)) hb)); clear HB hb; have HB := n0_; clear n0_) | (go_at_call 21; (with_reducible refine (status_May.calls 1 _ _ _ _ M.out).mono ?_); rintro e w' ⟨rfl, ⟨nd, rfl⟩⟩) | (go_at_call 27; (with_reducible refine (status_Able.calls _ _ _ A1.out).mono ?_); rintro e w' ⟨rfl, ⟨nd, rfl⟩⟩) | (go_at_call 27; (with_reducible refine (status_Able.calls _ _ _ A2.out).mono ?_); rintro e w' ⟨rfl, ⟨nd, rfl⟩⟩))
    all_goals first | (rename_i h1_ h2_; cases h1_; done) | (go_ret; exact ⟨by first | rfl | (simp; done) | (simp [*]; done), by repeat (first | (with_reducible first | exact HB.out | apply below_alloc | apply pw_below_drewN | apply below_drew1) | exact HB.out)⟩)
  · have M : Aside0 (status_May.f 1 5 3 = some false) := ⟨Pure.may_f 1 5 3 (by omega)⟩
    have A2 := Aside0.mk (able_f 3)
    have b1 : (decide ((5 : Int) = 1) || decide ((5 : Int) = 2)) = false := by decide
    have b2 : (decide ((3 : Int) = 1) || decide ((3 : Int) = 2)) = false := by decide
    rw [b1] at A1
    rw [b2] at A2
    clear b1 b2
    go_enter Try.func11, Try.ntmps11
    go_wp2_with (first | (go_at_call 20; (with_reducible refine (catafalquelaw09_shown.calls 100 true _ S.out).mono ?_); rintro e w1 ⟨rfl, hb⟩; (have n0_ := Aside0.mk (below_step (by repeat (first | (with_reducible first | exact HB.out | apply below_alloc | apply pw_below_drewN | apply below_drew1) | exact HB.out)) hb)); clear HB hb; have HB := n0_; clear n0_) | (go_at_call 21; (with_reducible refine (status_May.calls 1 _ _ _ _ M.out).mono ?_); rintro e w' ⟨rfl, ⟨nd, rfl⟩⟩) | (go_at_call 27; (with_reducible refine (status_Able.calls _ _ _ A1.out).mono ?_); rintro e w' ⟨rfl, ⟨nd, rfl⟩⟩) | (go_at_call 27; (with_reducible refine (status_Able.calls _ _ _ A2.out).mono ?_); rintro e w' ⟨rfl, ⟨nd, rfl⟩⟩))
    all_goals first | (rename_i h1_ h2_; cases h1_; done) | (go_ret; exact ⟨by first | rfl | (simp; done) | (simp [*]; done), by repeat (first | (with_reducible first | exact HB.out | apply below_alloc | apply pw_below_drewN | apply below_drew1) | exact HB.out)⟩)
  · have M : Aside0 (status_May.f 1 5 4 = some false) := ⟨Pure.may_f 1 5 4 (by omega)⟩
    have A2 := Aside0.mk (able_f 4)
    have b1 : (decide ((5 : Int) = 1) || decide ((5 : Int) = 2)) = false := by decide
    have b2 : (decide ((4 : Int) = 1) || decide ((4 : Int) = 2)) = false := by decide
    rw [b1] at A1
    rw [b2] at A2
    clear b1 b2
    go_enter Try.func11, Try.ntmps11
    go_wp2_with (first | (go_at_call 20; (with_reducible refine (catafalquelaw09_shown.calls 100 true _ S.out).mono ?_); rintro e w1 ⟨rfl, hb⟩; (have n0_ := Aside0.mk (below_step (by repeat (first | (with_reducible first | exact HB.out | apply below_alloc | apply pw_below_drewN | apply below_drew1) | exact HB.out)) hb)); clear HB hb; have HB := n0_; clear n0_) | (go_at_call 21; (with_reducible refine (status_May.calls 1 _ _ _ _ M.out).mono ?_); rintro e w' ⟨rfl, ⟨nd, rfl⟩⟩) | (go_at_call 27; (with_reducible refine (status_Able.calls _ _ _ A1.out).mono ?_); rintro e w' ⟨rfl, ⟨nd, rfl⟩⟩) | (go_at_call 27; (with_reducible refine (status_Able.calls _ _ _ A2.out).mono ?_); rintro e w' ⟨rfl, ⟨nd, rfl⟩⟩))
    all_goals first | (rename_i h1_ h2_; cases h1_; done) | (go_ret; exact ⟨by first | rfl | (simp; done) | (simp [*]; done), by repeat (first | (with_reducible first | exact HB.out | apply below_alloc | apply pw_below_drewN | apply below_drew1) | exact HB.out)⟩)
  · have M : Aside0 (status_May.f 1 5 5 = some false) := ⟨Pure.may_f 1 5 5 (by omega)⟩
    have A2 := Aside0.mk (able_f 5)
    have b1 : (decide ((5 : Int) = 1) || decide ((5 : Int) = 2)) = false := by decide
    have b2 : (decide ((5 : Int) = 1) || decide ((5 : Int) = 2)) = false := by decide
    rw [b1] at A1
    rw [b2] at A2
    clear b1 b2
    go_enter Try.func11, Try.ntmps11
    go_wp2_with (first | (go_at_call 20; (with_reducible refine (catafalquelaw09_shown.calls 100 true _ S.out).mono ?_); rintro e w1 ⟨rfl, hb⟩; (have n0_ := Aside0.mk (below_step (by repeat (first | (with_reducible first | exact HB.out | apply below_alloc | apply pw_below_drewN | apply below_drew1) | exact HB.out)) hb)); clear HB hb; have HB := n0_; clear n0_) | (go_at_call 21; (with_reducible refine (status_May.calls 1 _ _ _ _ M.out).mono ?_); rintro e w' ⟨rfl, ⟨nd, rfl⟩⟩) | (go_at_call 27; (with_reducible refine (status_Able.calls _ _ _ A1.out).mono ?_); rintro e w' ⟨rfl, ⟨nd, rfl⟩⟩) | (go_at_call 27; (with_reducible refine (status_Able.calls _ _ _ A2.out).mono ?_); rintro e w' ⟨rfl, ⟨nd, rfl⟩⟩))
    all_goals first | (rename_i h1_ h2_; cases h1_; done) | (go_ret; exact ⟨by first | rfl | (simp; done) | (simp [*]; done), by repeat (first | (with_reducible first | exact HB.out | apply below_alloc | apply pw_below_drewN | apply below_drew1) | exact HB.out)⟩)
theorem able_law (a b : Int) (ha : 0 ≤ a ∧ a ≤ 255) (hb : 0 ≤ b ∧ b ≤ 255) (w : World) :
    Calls Try.prog 11 #[.int .u8 a, .int .u8 b] w fun e w' => e = .returned (.bool true) ∧ Below w.heap.size w w' := by
  have cy := six b hb.1 hb.2
  rcases six a ha.1 ha.2 with h | h | h | h | h | h
  · exact able_calls0 a b _ h rfl cy w
  · exact able_calls1 a b _ h rfl cy w
  · exact able_calls2 a b _ h rfl cy w
  · exact able_calls3 a b _ h rfl cy w
  · exact able_calls4 a b _ h rfl cy w
  · exact able_calls5 a b _ h rfl cy w
end Go.Proofs.Ytibkpacjijbblaa.QStatus
