/- The walk of the law StatusNames: it tells true of every two numbers. -/
import Derived.Test.YtibkpacjijbblaaQStatusx1
import Derived.Test.YtibkpacjijbblaaPlainStatus
namespace Go.Proofs.Ytibkpacjijbblaa.QStatus
open Go.RowKit Go.Proofs.YtibkpacjijbblaaW.PrintWords Go.Proofs.YtibkpacjijbblaaW.PrintLast Go.Proofs.YtibkpacjijbblaaW.PrintMore
attribute [local go_sem] max2_int min2_int max_two min_two max_three min_three max_four min_four   -- for this text's walks alone
set_option linter.unusedVariables false
set_option linter.unusedSimpArgs false
/-- a status' name -/
def nm (a : Int) : ByteArray := if a = 0 then ⟨#[105, 100, 108, 101]⟩ else if a = 1 then ⟨#[114, 117, 110, 110, 97, 98, 108, 101]⟩ else if a = 2 then ⟨#[114, 117, 110, 110, 105, 110, 103]⟩ else if a = 3 then ⟨#[119, 97, 105, 116, 105, 110, 103]⟩ else if a = 4 then ⟨#[100, 101, 97, 100]⟩ else ⟨#[]⟩
theorem nm_f (a : Int) : status_Name.f a = some (nm a) := by
  unfold status_Name.f nm
  repeat' split
  all_goals rfl
theorem cases5 (a : Int) : a = 0 ∨ a = 1 ∨ a = 2 ∨ a = 3 ∨ a = 4 ∨ (¬ a = 0 ∧ ¬ a = 1 ∧ ¬ a = 2 ∧ ¬ a = 3 ∧ ¬ a = 4) := by omega
theorem nm_out (a : Int) (h : ¬ a = 0 ∧ ¬ a = 1 ∧ ¬ a = 2 ∧ ¬ a = 3 ∧ ¬ a = 4) : nm a = ⟨#[]⟩ := by
  unfold nm; rw [if_neg h.1, if_neg h.2.1, if_neg h.2.2.1, if_neg h.2.2.2.1, if_neg h.2.2.2.2]
theorem nm_letters (a : Int) : (nm a).size ≤ 20 ∧ ∀ i : Nat, i < (nm a).size → 97 ≤ bt (nm a) i ∧ bt (nm a) i ≤ 122 := by
  rcases cases5 a with rfl | rfl | rfl | rfl | rfl | h
  · exact ⟨by decide, by decide +kernel⟩
  · exact ⟨by decide, by decide +kernel⟩
  · exact ⟨by decide, by decide +kernel⟩
  · exact ⟨by decide, by decide +kernel⟩
  · exact ⟨by decide, by decide +kernel⟩
  · rw [nm_out a h]; exact ⟨by decide, fun i hi => absurd hi (Nat.not_lt_zero i)⟩

set_option maxHeartbeats 2000000 in
set_option maxRecDepth 100000 in
theorem names_calls (a b : Int) (u v : ByteArray) (na : status_Name.f a = some u) (nb : status_Name.f b = some v) (hs : u.size ≤ 20) (hu : ∀ i : Nat, i < u.size → 97 ≤ bt u i ∧ bt u i ≤ 122)
    (p q1 q2 : Bool) (e1 : u.toList.isEmpty = p) (e2 : decide (0 ≤ a) = q1) (e3 : decide (a ≤ 4) = q2) (hp : u.toList.isEmpty = !(q1 && q2)) (e4 : u.toList.isEmpty = false → (u.toList == v.toList) = (a == b)) (w : World) :
    Calls Try.prog 9 #[.int .i64 a, .int .i64 b] w fun e w' => e = .returned (.bool true) ∧ Below w.heap.size w w' := by
  have HB := Aside0.mk (Below.refl w.heap.size w)
  have S := Aside0.mk (Pure.shown_f 100 (by omega))
  have NA := Aside0.mk na
  have NB := Aside0.mk nb
  have HU := Aside0.mk hu
  have HS := Aside0.mk hs
  clear na nb hu hs
  have E4 := Aside0.mk e4
  rw [e1] at hp
  have E1 := Aside0.mk e1
  have HP := Aside0.mk hp
  clear e4 e1 hp
  go_enter Try.func9, Try.ntmps9
  go_wp2_with (first | (go_at_call 20; (with_reducible refine (catafalquelaw09_shown.calls 100 true _ S.out).mono ?_); rintro e w1 ⟨rfl, hb⟩; (have n0_ := Aside0.mk (below_step (by repeat (first | (with_reducible first | exact HB.out | apply below_alloc | apply pw_below_drewN | apply below_drew1) | exact HB.out)) hb)); clear HB hb; have HB := n0_; clear n0_) | (go_at_call 22; (with_reducible refine (status_Name.calls a u _ NA.out).mono ?_); rintro e w' ⟨rfl, ⟨nd, rfl⟩⟩) | (go_at_call 22; (with_reducible refine (status_Name.calls b v _ NB.out).mono ?_); rintro e w' ⟨rfl, ⟨nd, rfl⟩⟩))
  go_loopg [8] 30 (fun kq v8 w' => ∃ k : Nat, v8 = .int .i64 (k : Int) ∧ Aside0 (k + kq = 30 ∧ k ≤ u.size) ∧ Aside0 (Below w.heap.size w w'))
  case atStart => exact ⟨0, (by first | rfl | (simp; done) | (simp [*]; done)), ⟨by omega, by omega⟩, ⟨by repeat (first | (with_reducible first | exact HB.out | apply below_alloc | apply pw_below_drewN | apply below_drew1) | exact HB.out)⟩⟩
  case round =>
    obtain ⟨k, rfl, HK, HB⟩ := hrel
    by_cases c : k < u.size
    · have hb := HU.out k c
      have c1 : decide ((k : Int) < (u.size : Int)) = true := decide_eq_true (by omega)
      have hx : ((u[k]).toNat : Int) = bt u (k : Int) := bt_at u (k : Int) c
      have c2 : decide (((u[k]).toNat : Int) < 97) = false := decide_eq_false (by omega)
      have c3 : decide (122 < ((u[k]).toNat : Int)) = false := decide_eq_false (by omega)
      have kk := HK.out
      have hs' := HS.out
      have hw : wrap64 ((k : Int) + 1) = ((k + 1 : Nat) : Int) := Pure.wrap_nat k (by omega)
      have HW := Aside0.mk hw
      obtain ⟨g, hg⟩ : ∃ g, gk = g + 1 := ⟨gk - 1, by omega⟩
      subst hg
      clear hb kk hs' hw hx
      go_wp2
      go_roundg g
      case measure => omega
      case rel => exact ⟨k + 1, (by first | rfl | (rw [HW.out]) | (simp; done)), ⟨by have := HK.out; omega⟩, ⟨by repeat (first | (with_reducible first | exact HB.out | apply below_alloc | apply pw_below_drewN | apply below_drew1) | exact HB.out)⟩⟩
    · have c1 : decide (k < u.size) = false := decide_eq_false c
      have e1 := E1.out
      have hp := HP.out
      clear c
      cases q1 <;> cases q2
      all_goals
        first
        | (have hq : p = true := hp
           subst hq)
        | (have hq : p = false := hp
           subst hq
           have e4 := E4.out e1)
        clear hp
        go_wp2
        go_ret
        exact ⟨by first | rfl | (simp; done) | (simp [*]; done), by repeat (first | (with_reducible first | exact HB.out | apply below_alloc | apply pw_below_drewN | apply below_drew1) | exact HB.out)⟩
theorem nm_toList (a : Int) : (nm a).toList.isEmpty = !(decide (0 ≤ a) && decide (a ≤ 4)) := by
  by_cases h : ¬ a = 0 ∧ ¬ a = 1 ∧ ¬ a = 2 ∧ ¬ a = 3 ∧ ¬ a = 4
  · have e : (nm a).toList.isEmpty = true := by rw [nm_out a h]; decide +kernel
    rw [e]
    by_cases h0 : 0 ≤ a
    · rw [decide_eq_false (show ¬ a ≤ 4 by omega)]; simp
    · rw [decide_eq_false h0]; rfl
  · have hc : a = 0 ∨ a = 1 ∨ a = 2 ∨ a = 3 ∨ a = 4 := by omega
    rcases hc with rfl | rfl | rfl | rfl | rfl <;> decide +kernel
theorem nm_same (a b : Int) (h : (nm a).toList.isEmpty = false) : ((nm a).toList == (nm b).toList) = (a == b) := by
  have ha : a = 0 ∨ a = 1 ∨ a = 2 ∨ a = 3 ∨ a = 4 := by
    rw [nm_toList] at h
    by_cases h0 : 0 ≤ a
    · by_cases h4 : a ≤ 4
      · omega
      · rw [decide_eq_false h4] at h; simp at h
    · rw [decide_eq_false h0] at h; simp at h
  rcases cases5 b with rfl | rfl | rfl | rfl | rfl | hd
  case inr.inr.inr.inr.inr =>
    rw [nm_out b hd, beq_eq_false_iff_ne.2 (show a ≠ b by omega)]
    rcases ha with rfl | rfl | rfl | rfl | rfl <;> decide +kernel
  all_goals rcases ha with rfl | rfl | rfl | rfl | rfl <;> decide +kernel
theorem names_law (a b : Int) (w : World) : Calls Try.prog 9 #[.int .i64 a, .int .i64 b] w fun e w' => e = .returned (.bool true) ∧ Below w.heap.size w w' := by
  have hl := nm_letters a
  exact names_calls a b (nm a) (nm b) (nm_f a) (nm_f b) hl.1 hl.2 _ _ _ rfl rfl rfl (nm_toList a) (fun h => nm_same a b h) w
end Go.Proofs.Ytibkpacjijbblaa.QStatus
