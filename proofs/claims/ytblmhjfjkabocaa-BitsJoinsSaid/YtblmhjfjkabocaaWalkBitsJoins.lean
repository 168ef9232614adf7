/- The walk of the law BitsJoins: where its callees' answers are known it tells true. -/
import Derived.Test.YtblmhjfjkabocaaPBitsJoinsx1
namespace Go.Proofs.Ytblmhjfjkabocaa.PBitsJoins
open Go.RowKit Go.Proofs.YtblmhjfjkabocaaW.PrintWords Go.Proofs.YtblmhjfjkabocaaW.PrintLast Go.Proofs.YtblmhjfjkabocaaW.PrintMore
attribute [local go_sem] max2_int min2_int max_two min_two max_three min_three max_four min_four   -- for this text's walks alone
set_option linter.unusedVariables false
set_option linter.unusedSimpArgs false
set_option maxHeartbeats 1000000 in
set_option maxRecDepth 100000 in
theorem law_calls (k : Nat) (a0 a1 a2 : Int) (p q : Bool) (n1 n2 n3 n4 : Int) (w : World) (hs : catafalquelaw06_shown.f k = some true)
    (h1 : bits_Set_Has.f (Go.bits .or .u64 a0 a1) a2 = some (p || q)) (h2 : bits_Set_Has.f a0 a2 = some p) (h3 : bits_Set_Has.f a1 a2 = some q) (h4 : bits_Set_Has.f (Go.bits .and .u64 a0 a1) a2 = some (p && q))
    (c1 : bits_Set_Count.f k (Go.bits .or .u64 a0 a1) = some n1) (c2 : bits_Set_Count.f k (Go.bits .and .u64 a0 a1) = some n2) (c3 : bits_Set_Count.f k a0 = some n3) (c4 : bits_Set_Count.f k a1 = some n4) (he : (wrap64 (n1 + n2) == wrap64 (n3 + n4)) = true) :
    Calls Try.prog 8 #[.int .u64 a0, .int .u64 a1, .int .i64 a2] w fun e w' => e = .returned (.bool true) ∧ Below w.heap.size w w' := by
  have HB := Aside0.mk (Below.refl w.heap.size w)
  have S := Aside0.mk hs
  have H1 := Aside0.mk h1
  have H2 := Aside0.mk h2
  have H3 := Aside0.mk h3
  have H4 := Aside0.mk h4
  have C1 := Aside0.mk c1
  have C2 := Aside0.mk c2
  have C3 := Aside0.mk c3
  have C4 := Aside0.mk c4
  clear hs h1 h2 h3 h4 c1 c2 c3 c4
  cases p <;> cases q
  all_goals
    go_enter Try.func8, Try.ntmps8
    go_wp2_with (first | (go_at_call 20; (with_reducible refine (catafalquelaw06_shown.calls k true _ S.out).mono ?_); rintro e w1 ⟨rfl, hb⟩; (have n0_ := Aside0.mk (below_step (by repeat (first | (with_reducible first | exact HB.out | apply below_alloc | apply pw_below_drewN | apply below_drew1) | exact HB.out)) hb)); clear HB hb; have HB := n0_; clear n0_) | (go_at_call 25; (with_reducible refine (bits_Set_Has.calls (Go.bits .or .u64 a0 a1) a2 _ _ H1.out).mono ?_); rintro e w' ⟨rfl, ⟨nd, rfl⟩⟩) | (go_at_call 25; (with_reducible refine (bits_Set_Has.calls a0 a2 _ _ H2.out).mono ?_); rintro e w' ⟨rfl, ⟨nd, rfl⟩⟩) | (go_at_call 25; (with_reducible refine (bits_Set_Has.calls a1 a2 _ _ H3.out).mono ?_); rintro e w' ⟨rfl, ⟨nd, rfl⟩⟩) | (go_at_call 25; (with_reducible refine (bits_Set_Has.calls (Go.bits .and .u64 a0 a1) a2 _ _ H4.out).mono ?_); rintro e w' ⟨rfl, ⟨nd, rfl⟩⟩) | (go_at_call 27; (with_reducible refine (bits_Set_Count.calls k (Go.bits .or .u64 a0 a1) n1 _ C1.out).mono ?_); rintro e w' ⟨rfl, ⟨nd, rfl⟩⟩) | (go_at_call 27; (with_reducible refine (bits_Set_Count.calls k (Go.bits .and .u64 a0 a1) n2 _ C2.out).mono ?_); rintro e w' ⟨rfl, ⟨nd, rfl⟩⟩) | (go_at_call 27; (with_reducible refine (bits_Set_Count.calls k a0 n3 _ C3.out).mono ?_); rintro e w' ⟨rfl, ⟨nd, rfl⟩⟩) | (go_at_call 27; (with_reducible refine (bits_Set_Count.calls k a1 n4 _ C4.out).mono ?_); rintro e w' ⟨rfl, ⟨nd, rfl⟩⟩))
    go_ret
    exact ⟨by first | rfl | rw [he], by repeat (first | (with_reducible first | exact HB.out | apply below_alloc | apply pw_below_drewN | apply below_drew1) | exact HB.out)⟩
end Go.Proofs.Ytblmhjfjkabocaa.PBitsJoins
