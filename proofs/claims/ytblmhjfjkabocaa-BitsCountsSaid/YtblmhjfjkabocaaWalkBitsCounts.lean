/- The walk of the law BitsCounts: where its callees' answers are known it tells true. -/
import Derived.Test.YtblmhjfjkabocaaPBitsCountsx1
namespace Go.Proofs.Ytblmhjfjkabocaa.PBitsCounts
open Go.RowKit Go.Proofs.YtblmhjfjkabocaaW.PrintWords Go.Proofs.YtblmhjfjkabocaaW.PrintLast Go.Proofs.YtblmhjfjkabocaaW.PrintMore
attribute [local go_sem] max2_int min2_int max_two min_two max_three min_three max_four min_four   -- for this text's walks alone
set_option linter.unusedVariables false
set_option linter.unusedSimpArgs false
set_option maxHeartbeats 1000000 in
set_option maxRecDepth 100000 in
theorem law_calls (k : Nat) (a0 a1 t : Int) (p : Bool) (n1 n2 : Int) (l : List Int) (w : World) (hs : catafalquelaw06_shown.f k = some true)
    (h1 : bits_Set_Has.f a0 a1 = some p) (h2 : bits_Set_With.f a0 a1 = some t) (h3 : bits_Set_All.f k a0 = some l)
    (c1 : bits_Set_Count.f k a0 = some n1) (c2 : bits_Set_Count.f k t = some n2) (b0 : 0 ≤ n1) (b1 : n1 ≤ 64) (hl : (n1 == (l.length : Int)) = true)
    (he : (n2 == n1 + (if 0 ≤ a1 ∧ a1 < 64 ∧ p = false then 1 else 0)) = true) :
    Calls Try.prog 9 #[.int .u64 a0, .int .i64 a1] w fun e w' => e = .returned (.bool true) ∧ Below w.heap.size w w' := by
  have HB := Aside0.mk (Below.refl w.heap.size w)
  have S := Aside0.mk hs
  have H1 := Aside0.mk h1
  have H2 := Aside0.mk h2
  have H3 := Aside0.mk h3
  have C1 := Aside0.mk c1
  have C2 := Aside0.mk c2
  clear hs h1 h2 h3 c1 c2
  by_cases d1 : 0 ≤ a1
  · by_cases d2 : a1 < 64
    · cases p
      · rw [if_pos ⟨d1, d2, rfl⟩] at he
        go_enter Try.func9, Try.ntmps9
        go_wp2_with (first | (go_at_call 20; (with_reducible refine (catafalquelaw06_shown.calls k true _ S.out).mono ?_); rintro e w1 ⟨rfl, hb⟩; (have n0_ := Aside0.mk (below_step (by repeat (first | (with_reducible first | exact HB.out | apply below_alloc | apply pw_below_drewN | apply below_drew1) | exact HB.out)) hb)); clear HB hb; have HB := n0_; clear n0_) | (go_at_call 27; (with_reducible refine (bits_Set_Count.calls k a0 n1 _ C1.out).mono ?_); rintro e w' ⟨rfl, ⟨nd, rfl⟩⟩) | (go_at_call 27; (with_reducible refine (bits_Set_Count.calls k t n2 _ C2.out).mono ?_); rintro e w' ⟨rfl, ⟨nd, rfl⟩⟩) | (go_at_call 25; (with_reducible refine (bits_Set_Has.calls a0 a1 _ _ H1.out).mono ?_); rintro e w' ⟨rfl, ⟨nd, rfl⟩⟩) | (go_at_call 22; (with_reducible refine (bits_Set_With.calls a0 a1 t _ H2.out).mono ?_); rintro e w' ⟨rfl, ⟨nd, rfl⟩⟩) | (go_at_call 23; (with_reducible refine (bits_Set_All.calls k a0 l _ H3.out).mono ?_); rintro e w1 ⟨v0, rfl, hR, hb⟩; (obtain ⟨Ao, co, eo⟩ := Kd.R_slice hR); subst eo; (have n0_ := Aside0.mk (below_step (by repeat (first | (with_reducible first | exact HB.out | apply below_alloc | apply pw_below_drewN | apply below_drew1) | exact HB.out)) hb)); clear HB hb hR; have HB := n0_; clear n0_))
        all_goals first | (rename_i h1_ h2_; cases h1_; done) | (go_ret; exact ⟨by first | rfl | (simp; done) | (simp [*]; done), by repeat (first | (with_reducible first | exact HB.out | apply below_alloc | apply pw_below_drewN | apply below_drew1) | exact HB.out)⟩)
      · rw [if_neg (by simp), Int.add_zero] at he
        go_enter Try.func9, Try.ntmps9
        go_wp2_with (first | (go_at_call 20; (with_reducible refine (catafalquelaw06_shown.calls k true _ S.out).mono ?_); rintro e w1 ⟨rfl, hb⟩; (have n0_ := Aside0.mk (below_step (by repeat (first | (with_reducible first | exact HB.out | apply below_alloc | apply pw_below_drewN | apply below_drew1) | exact HB.out)) hb)); clear HB hb; have HB := n0_; clear n0_) | (go_at_call 27; (with_reducible refine (bits_Set_Count.calls k a0 n1 _ C1.out).mono ?_); rintro e w' ⟨rfl, ⟨nd, rfl⟩⟩) | (go_at_call 27; (with_reducible refine (bits_Set_Count.calls k t n2 _ C2.out).mono ?_); rintro e w' ⟨rfl, ⟨nd, rfl⟩⟩) | (go_at_call 25; (with_reducible refine (bits_Set_Has.calls a0 a1 _ _ H1.out).mono ?_); rintro e w' ⟨rfl, ⟨nd, rfl⟩⟩) | (go_at_call 22; (with_reducible refine (bits_Set_With.calls a0 a1 t _ H2.out).mono ?_); rintro e w' ⟨rfl, ⟨nd, rfl⟩⟩) | (go_at_call 23; (with_reducible refine (bits_Set_All.calls k a0 l _ H3.out).mono ?_); rintro e w1 ⟨v0, rfl, hR, hb⟩; (obtain ⟨Ao, co, eo⟩ := Kd.R_slice hR); subst eo; (have n0_ := Aside0.mk (below_step (by repeat (first | (with_reducible first | exact HB.out | apply below_alloc | apply pw_below_drewN | apply below_drew1) | exact HB.out)) hb)); clear HB hb hR; have HB := n0_; clear n0_))
        all_goals first | (rename_i h1_ h2_; cases h1_; done) | (go_ret; exact ⟨by first | rfl | (simp; done) | (simp [*]; done), by repeat (first | (with_reducible first | exact HB.out | apply below_alloc | apply pw_below_drewN | apply below_drew1) | exact HB.out)⟩)
    · rw [if_neg (by simp [d2]), Int.add_zero] at he
      have d2b : decide (a1 < 64) = false := by simpa using d2
      go_enter Try.func9, Try.ntmps9
      go_wp2_with (first | (go_at_call 20; (with_reducible refine (catafalquelaw06_shown.calls k true _ S.out).mono ?_); rintro e w1 ⟨rfl, hb⟩; (have n0_ := Aside0.mk (below_step (by repeat (first | (with_reducible first | exact HB.out | apply below_alloc | apply pw_below_drewN | apply below_drew1) | exact HB.out)) hb)); clear HB hb; have HB := n0_; clear n0_) | (go_at_call 27; (with_reducible refine (bits_Set_Count.calls k a0 n1 _ C1.out).mono ?_); rintro e w' ⟨rfl, ⟨nd, rfl⟩⟩) | (go_at_call 27; (with_reducible refine (bits_Set_Count.calls k t n2 _ C2.out).mono ?_); rintro e w' ⟨rfl, ⟨nd, rfl⟩⟩) | (go_at_call 25; (with_reducible refine (bits_Set_Has.calls a0 a1 _ _ H1.out).mono ?_); rintro e w' ⟨rfl, ⟨nd, rfl⟩⟩) | (go_at_call 22; (with_reducible refine (bits_Set_With.calls a0 a1 t _ H2.out).mono ?_); rintro e w' ⟨rfl, ⟨nd, rfl⟩⟩) | (go_at_call 23; (with_reducible refine (bits_Set_All.calls k a0 l _ H3.out).mono ?_); rintro e w1 ⟨v0, rfl, hR, hb⟩; (obtain ⟨Ao, co, eo⟩ := Kd.R_slice hR); subst eo; (have n0_ := Aside0.mk (below_step (by repeat (first | (with_reducible first | exact HB.out | apply below_alloc | apply pw_below_drewN | apply below_drew1) | exact HB.out)) hb)); clear HB hb hR; have HB := n0_; clear n0_))
      all_goals first | (rename_i h1_ h2_; cases h1_; done) | (go_ret; exact ⟨by first | rfl | (simp; done) | (simp [*]; done), by repeat (first | (with_reducible first | exact HB.out | apply below_alloc | apply pw_below_drewN | apply below_drew1) | exact HB.out)⟩)
  · rw [if_neg (by simp [d1]), Int.add_zero] at he
    have d1b : decide (0 ≤ a1) = false := by simpa using d1
    go_enter Try.func9, Try.ntmps9
    go_wp2_with (first | (go_at_call 20; (with_reducible refine (catafalquelaw06_shown.calls k true _ S.out).mono ?_); rintro e w1 ⟨rfl, hb⟩; (have n0_ := Aside0.mk (below_step (by repeat (first | (with_reducible first | exact HB.out | apply below_alloc | apply pw_below_drewN | apply below_drew1) | exact HB.out)) hb)); clear HB hb; have HB := n0_; clear n0_) | (go_at_call 27; (with_reducible refine (bits_Set_Count.calls k a0 n1 _ C1.out).mono ?_); rintro e w' ⟨rfl, ⟨nd, rfl⟩⟩) | (go_at_call 27; (with_reducible refine (bits_Set_Count.calls k t n2 _ C2.out).mono ?_); rintro e w' ⟨rfl, ⟨nd, rfl⟩⟩) | (go_at_call 25; (with_reducible refine (bits_Set_Has.calls a0 a1 _ _ H1.out).mono ?_); rintro e w' ⟨rfl, ⟨nd, rfl⟩⟩) | (go_at_call 22; (with_reducible refine (bits_Set_With.calls a0 a1 t _ H2.out).mono ?_); rintro e w' ⟨rfl, ⟨nd, rfl⟩⟩) | (go_at_call 23; (with_reducible refine (bits_Set_All.calls k a0 l _ H3.out).mono ?_); rintro e w1 ⟨v0, rfl, hR, hb⟩; (obtain ⟨Ao, co, eo⟩ := Kd.R_slice hR); subst eo; (have n0_ := Aside0.mk (below_step (by repeat (first | (with_reducible first | exact HB.out | apply below_alloc | apply pw_below_drewN | apply below_drew1) | exact HB.out)) hb)); clear HB hb hR; have HB := n0_; clear n0_))
    all_goals first | (rename_i h1_ h2_; cases h1_; done) | (go_ret; exact ⟨by first | rfl | (simp; done) | (simp [*]; done), by repeat (first | (with_reducible first | exact HB.out | apply below_alloc | apply pw_below_drewN | apply below_drew1) | exact HB.out)⟩)
end Go.Proofs.Ytblmhjfjkabocaa.PBitsCounts
