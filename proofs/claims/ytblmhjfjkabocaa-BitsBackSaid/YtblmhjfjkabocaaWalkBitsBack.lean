/- The walk of the law BitsBack: where its callees' answers are known it tells true. -/
import Derived.Test.YtblmhjfjkabocaaPBitsBackx1
namespace Go.Proofs.Ytblmhjfjkabocaa.PBitsBack
open Go.RowKit Go.Proofs.YtblmhjfjkabocaaW.PrintWords Go.Proofs.YtblmhjfjkabocaaW.PrintLast Go.Proofs.YtblmhjfjkabocaaW.PrintMore
attribute [local go_sem] max2_int min2_int max_two min_two max_three min_three max_four min_four   -- for this text's walks alone
set_option linter.unusedVariables false
set_option linter.unusedSimpArgs false
set_option maxHeartbeats 1000000 in
set_option maxRecDepth 100000 in
theorem law_calls (k : Nat) (a0 a1 t u : Int) (l : List Int) (w : World) (hs : catafalquelaw06_shown.f k = some true)
    (h0 : bits_Set_All.f k a0 = some l) (ho : bits_Of.f k l = some a0) (w1 : bits_Set_With.f a0 a1 = some t) (w2 : bits_Set_With.f u a1 = some t) (o1 : bits_Set_Without.f a0 a1 = some u) (o2 : bits_Set_Without.f t a1 = some u)
    (h1 : bits_Set_Has.f t a1 = some (decide (0 ≤ a1 ∧ a1 < 64))) (h2 : bits_Set_Has.f u a1 = some false) (e1 : ¬ (0 ≤ a1 ∧ a1 < 64) → a0 = t ∧ a0 = u) :
    Calls Try.prog 6 #[.int .u64 a0, .int .i64 a1] w fun e w' => e = .returned (.bool true) ∧ Below w.heap.size w w' := by
  have HB := Aside0.mk (Below.refl w.heap.size w)
  have S := Aside0.mk hs
  have H0 := Aside0.mk h0
  have HO := Aside0.mk ho
  have O2 := Aside0.mk o2
  have O1 := Aside0.mk o1
  have W1 := Aside0.mk w1
  have W2 := Aside0.mk w2
  have H2 := Aside0.mk h2
  clear hs h0 ho o1 o2 w1 w2 h2
  by_cases d1 : 0 ≤ a1
  · by_cases d2 : a1 < 64
    · have H1 : Aside0 (bits_Set_Has.f t a1 = some true) := ⟨by rw [h1]; simp [d1, d2]⟩
      clear h1 e1
      go_enter Try.func6, Try.ntmps6
      go_wp2_with (first | (go_at_call 20; (with_reducible refine (catafalquelaw06_shown.calls k true _ S.out).mono ?_); rintro e w1 ⟨rfl, hb⟩; (have n0_ := Aside0.mk (below_step (by repeat (first | (with_reducible first | exact HB.out | apply below_alloc | apply pw_below_drewN | apply below_drew1) | exact HB.out)) hb)); clear HB hb; have HB := n0_; clear n0_) | (go_at_call 23; (with_reducible refine (bits_Set_All.calls k a0 l _ H0.out).mono ?_); rintro e w1 ⟨v0, rfl, hR, hb⟩; (have n0_ := Aside0.mk (below_step (by repeat (first | (with_reducible first | exact HB.out | apply below_alloc | apply pw_below_drewN | apply below_drew1) | exact HB.out)) hb)); (obtain ⟨Ao, co, eo, hco, hRc⟩ := Kd.R_reads hR); subst eo; (have RR := Aside0.mk hRc); clear HB hb hR hRc; have HB := n0_; clear n0_) | (go_at_call 21; (with_reducible refine (bits_Of.calls k _ _ l a0 _ (by with_reducible first | exact RR.out | exact Kd.C_drewN RR.out _ | exact Kd.C_drew RR.out) hco HO.out).mono ?_); rintro e w' ⟨rfl, ⟨nd, rfl⟩⟩) | (go_at_call 22; (with_reducible refine (bits_Set_With.calls _ _ _ _ W1.out).mono ?_); rintro e w' ⟨rfl, ⟨nd, rfl⟩⟩) | (go_at_call 22; (with_reducible refine (bits_Set_With.calls _ _ _ _ W2.out).mono ?_); rintro e w' ⟨rfl, ⟨nd, rfl⟩⟩) | (go_at_call 24; (with_reducible refine (bits_Set_Without.calls _ _ _ _ O1.out).mono ?_); rintro e w' ⟨rfl, ⟨nd, rfl⟩⟩) | (go_at_call 24; (with_reducible refine (bits_Set_Without.calls _ _ _ _ O2.out).mono ?_); rintro e w' ⟨rfl, ⟨nd, rfl⟩⟩) | (go_at_call 25; (with_reducible refine (bits_Set_Has.calls _ _ _ _ H1.out).mono ?_); rintro e w' ⟨rfl, ⟨nd, rfl⟩⟩) | (go_at_call 25; (with_reducible refine (bits_Set_Has.calls _ _ _ _ H2.out).mono ?_); rintro e w' ⟨rfl, ⟨nd, rfl⟩⟩))
      all_goals first | (rename_i h1_ h2_; cases h1_; done) | (go_ret; exact ⟨by first | rfl | (simp; done) | (simp [*]; done), by repeat (first | (with_reducible first | exact HB.out | apply below_alloc | apply pw_below_drewN | apply below_drew1) | exact HB.out)⟩)
    · have H1 : Aside0 (bits_Set_Has.f t a1 = some false) := ⟨by rw [h1]; simp [d2]⟩
      obtain ⟨rfl, rfl⟩ := e1 (by simp [d2])
      clear h1 e1
      have d2b : decide (a1 < 64) = false := by simpa using d2
      go_enter Try.func6, Try.ntmps6
      go_wp2_with (first | (go_at_call 20; (with_reducible refine (catafalquelaw06_shown.calls k true _ S.out).mono ?_); rintro e w1 ⟨rfl, hb⟩; (have n0_ := Aside0.mk (below_step (by repeat (first | (with_reducible first | exact HB.out | apply below_alloc | apply pw_below_drewN | apply below_drew1) | exact HB.out)) hb)); clear HB hb; have HB := n0_; clear n0_) | (go_at_call 23; (with_reducible refine (bits_Set_All.calls k a0 l _ H0.out).mono ?_); rintro e w1 ⟨v0, rfl, hR, hb⟩; (have n0_ := Aside0.mk (below_step (by repeat (first | (with_reducible first | exact HB.out | apply below_alloc | apply pw_below_drewN | apply below_drew1) | exact HB.out)) hb)); (obtain ⟨Ao, co, eo, hco, hRc⟩ := Kd.R_reads hR); subst eo; (have RR := Aside0.mk hRc); clear HB hb hR hRc; have HB := n0_; clear n0_) | (go_at_call 21; (with_reducible refine (bits_Of.calls k _ _ l a0 _ (by with_reducible first | exact RR.out | exact Kd.C_drewN RR.out _ | exact Kd.C_drew RR.out) hco HO.out).mono ?_); rintro e w' ⟨rfl, ⟨nd, rfl⟩⟩) | (go_at_call 22; (with_reducible refine (bits_Set_With.calls _ _ _ _ W1.out).mono ?_); rintro e w' ⟨rfl, ⟨nd, rfl⟩⟩) | (go_at_call 22; (with_reducible refine (bits_Set_With.calls _ _ _ _ W2.out).mono ?_); rintro e w' ⟨rfl, ⟨nd, rfl⟩⟩) | (go_at_call 24; (with_reducible refine (bits_Set_Without.calls _ _ _ _ O1.out).mono ?_); rintro e w' ⟨rfl, ⟨nd, rfl⟩⟩) | (go_at_call 24; (with_reducible refine (bits_Set_Without.calls _ _ _ _ O2.out).mono ?_); rintro e w' ⟨rfl, ⟨nd, rfl⟩⟩) | (go_at_call 25; (with_reducible refine (bits_Set_Has.calls _ _ _ _ H1.out).mono ?_); rintro e w' ⟨rfl, ⟨nd, rfl⟩⟩) | (go_at_call 25; (with_reducible refine (bits_Set_Has.calls _ _ _ _ H2.out).mono ?_); rintro e w' ⟨rfl, ⟨nd, rfl⟩⟩))
      all_goals first | (rename_i h1_ h2_; cases h1_; done) | (go_ret; exact ⟨by first | rfl | (simp; done) | (simp [*]; done), by repeat (first | (with_reducible first | exact HB.out | apply below_alloc | apply pw_below_drewN | apply below_drew1) | exact HB.out)⟩)
  · have H1 : Aside0 (bits_Set_Has.f t a1 = some false) := ⟨by rw [h1]; simp [d1]⟩
    obtain ⟨rfl, rfl⟩ := e1 (by simp [d1])
    clear h1 e1
    have d1b : decide (0 ≤ a1) = false := by simpa using d1
    go_enter Try.func6, Try.ntmps6
    go_wp2_with (first | (go_at_call 20; (with_reducible refine (catafalquelaw06_shown.calls k true _ S.out).mono ?_); rintro e w1 ⟨rfl, hb⟩; (have n0_ := Aside0.mk (below_step (by repeat (first | (with_reducible first | exact HB.out | apply below_alloc | apply pw_below_drewN | apply below_drew1) | exact HB.out)) hb)); clear HB hb; have HB := n0_; clear n0_) | (go_at_call 23; (with_reducible refine (bits_Set_All.calls k a0 l _ H0.out).mono ?_); rintro e w1 ⟨v0, rfl, hR, hb⟩; (have n0_ := Aside0.mk (below_step (by repeat (first | (with_reducible first | exact HB.out | apply below_alloc | apply pw_below_drewN | apply below_drew1) | exact HB.out)) hb)); (obtain ⟨Ao, co, eo, hco, hRc⟩ := Kd.R_reads hR); subst eo; (have RR := Aside0.mk hRc); clear HB hb hR hRc; have HB := n0_; clear n0_) | (go_at_call 21; (with_reducible refine (bits_Of.calls k _ _ l a0 _ (by with_reducible first | exact RR.out | exact Kd.C_drewN RR.out _ | exact Kd.C_drew RR.out) hco HO.out).mono ?_); rintro e w' ⟨rfl, ⟨nd, rfl⟩⟩) | (go_at_call 22; (with_reducible refine (bits_Set_With.calls _ _ _ _ W1.out).mono ?_); rintro e w' ⟨rfl, ⟨nd, rfl⟩⟩) | (go_at_call 22; (with_reducible refine (bits_Set_With.calls _ _ _ _ W2.out).mono ?_); rintro e w' ⟨rfl, ⟨nd, rfl⟩⟩) | (go_at_call 24; (with_reducible refine (bits_Set_Without.calls _ _ _ _ O1.out).mono ?_); rintro e w' ⟨rfl, ⟨nd, rfl⟩⟩) | (go_at_call 24; (with_reducible refine (bits_Set_Without.calls _ _ _ _ O2.out).mono ?_); rintro e w' ⟨rfl, ⟨nd, rfl⟩⟩) | (go_at_call 25; (with_reducible refine (bits_Set_Has.calls _ _ _ _ H1.out).mono ?_); rintro e w' ⟨rfl, ⟨nd, rfl⟩⟩) | (go_at_call 25; (with_reducible refine (bits_Set_Has.calls _ _ _ _ H2.out).mono ?_); rintro e w' ⟨rfl, ⟨nd, rfl⟩⟩))
    all_goals first | (rename_i h1_ h2_; cases h1_; done) | (go_ret; exact ⟨by first | rfl | (simp; done) | (simp [*]; done), by repeat (first | (with_reducible first | exact HB.out | apply below_alloc | apply pw_below_drewN | apply below_drew1) | exact HB.out)⟩)
end Go.Proofs.Ytblmhjfjkabocaa.PBitsBack
