/- The plain law SemPlays. -/
import Derived.Test.YtblmhjfjkabocaaQSemPx3
import Derived.Test.YtblmhjfjkabocaaPlainSemP
namespace Go.Proofs.Ytblmhjfjkabocaa.Pure
open Go Go.RowKit Go.Proofs.Ytblmhjfjkabocaa.QSemP Go.Proofs.YtblmhjfjkabocaaW.PrintWords Go.Proofs.YtblmhjfjkabocaaW.PrintLast Go.Proofs.YtblmhjfjkabocaaW.PrintMore
structure Play (i : Nat) (c : Int) (W : List Int) : Prop where
  c0 : 0 ≤ c
  c1 : c ≤ 4 + i
  w0 : 0 < c → W = []
  pos : ∀ x ∈ W, 0 < x
  fresh : ∀ x ∈ W, x ≤ i
  nd : W.Nodup
  lw : W.length ≤ i
set_option maxRecDepth 100000 in
theorem plays_j2 (l : List Int) (i : Nat) (c : Int) (W : List Int) (h : Play (i + 1) c W) (hi : i < 300) (k : Nat) (hk : 3500 < k) (next : catafalquelaw10_SemPlays.l0 k l true c W ((i + 1 : Nat) : Int) c W = some true) :
    catafalquelaw10_SemPlays.j2 (k + 1) l true c W (i : Int) c W = some true := by
  have l2 := h.lw
  have l1 := h.c1
  have my := may_yes k c W (by omega) h.c0 (by omega) h.w0 (by omega) h.pos h.nd
  rw [catafalquelaw10_SemPlays.j2, if_pos rfl, ints_same k W (by omega) (by omega)]
  simp only [Option.bind_some, if_true]
  rw [my]
  simp only [Option.bind_some, if_true]
  rw [wrap_nat i (by omega)]
  exact next
set_option maxRecDepth 100000 in
theorem plays_l0 (l : List Int) : ∀ (d i k : Nat) (c : Int) (W : List Int), Play i c W → i ≤ 300 → 300 - i = d → d * 10 + 4000 < k →
    catafalquelaw10_SemPlays.l0 k l true c W (i : Int) c W = some true := by
  intro d
  induction d with
  | zero =>
    intro i k c W h hi hd hk
    obtain ⟨k, rfl⟩ : ∃ m, k = m + 2 := ⟨k - 2, by omega⟩
    have q : decide ((i : Int) < 300) = false := decide_eq_false (by omega)
    have e : ∀ b, b = false → catafalquelaw10_SemPlays.j1 (k + 1) l true c W (i : Int) b c W = some true := by
      intro b hb; subst hb; rw [catafalquelaw10_SemPlays.j1, if_neg (by decide)]
    rw [catafalquelaw10_SemPlays.l0]
    by_cases cc : (i : Int) < (l.length : Int)
    · rw [if_pos cc]; exact e _ q
    · rw [if_neg cc]; exact e _ rfl
  | succ d ih =>
    intro i k c W h hi hd hk
    obtain ⟨k, rfl⟩ : ∃ m, k = m + 3 := ⟨k - 3, by omega⟩
    have q : decide ((i : Int) < 300) = true := decide_eq_true (by omega)
    have l2 := h.lw
    have l1 := h.c1
    have l0 := h.c0
    rw [catafalquelaw10_SemPlays.l0]
    by_cases cc : (i : Int) < (l.length : Int)
    · rw [if_pos cc, q, catafalquelaw10_SemPlays.j1, if_pos rfl, if_pos (Int.natCast_nonneg i), if_pos cc]
      by_cases ce : Int.tmod (rd l (i : Int)) 2 = 0
      · rw [if_pos ce]
        rcases W with _ | ⟨w, W⟩
        · have h' : Play (i + 1) (c + 1) [] := { c0 := by omega, c1 := by omega, w0 := fun _ => rfl, pos := by simp, fresh := by simp, nd := by simp, lw := by simp }
          rw [release_none c (by omega) l0]
          simp only [Option.bind_some]
          rw [if_neg (by simp), if_pos trivial, show wrap64 (c + 1) = c + 1 from by unfold wrap64; omega]
          exact plays_j2 l i (c + 1) [] h' (by omega) k (by omega) (ih (i + 1) k (c + 1) [] h' (by omega) (by omega) (by omega))
        · have hc : c = 0 := by
            by_cases e : 0 < c
            · have := h.w0 e; simp at this
            · omega
          have n := h.nd
          simp only [List.nodup_cons] at n
          have h' : Play (i + 1) c W := { c0 := l0, c1 := by omega, w0 := fun x => by omega, pos := fun x hx => h.pos x (List.mem_cons_of_mem _ hx), fresh := fun x hx => by have := h.fresh x (List.mem_cons_of_mem _ hx); omega, nd := n.2, lw := by simp at l2; omega }
          rw [release_wait c w W (by simp at l2; omega)]
          simp only [Option.bind_some]
          have q5 : ((w :: W).length : Int) > 0 := by rw [List.length_cons]; omega
          rw [if_pos q5, if_pos q5, if_pos (show w = rd (w :: W) 0 from rfl), if_pos (by omega)]
          exact plays_j2 l i c W h' (by omega) k (by omega) (ih (i + 1) k c W h' (by omega) (by omega) (by omega))
      · rw [if_neg ce, wrap_nat i (by omega)]
        by_cases hc : 0 < c
        · obtain rfl := h.w0 hc
          have h' : Play (i + 1) (c - 1) [] := { c0 := by omega, c1 := by omega, w0 := fun _ => rfl, pos := by simp, fresh := by simp, nd := by simp, lw := by simp }
          rw [acquire_some c [] _ hc (by omega) (by simp)]
          simp only [Option.bind_some]
          rw [decide_eq_true hc, if_neg (by decide), if_pos trivial, show wrap64 (c - 1) = c - 1 from by unfold wrap64; omega]
          exact plays_j2 l i (c - 1) [] h' (by omega) k (by omega) (ih (i + 1) k (c - 1) [] h' (by omega) (by omega) (by omega))
        · have h' : Play (i + 1) c (W ++ [((i + 1 : Nat) : Int)]) := {
            c0 := l0, c1 := by omega, w0 := fun x => absurd x hc
            pos := fun x hx => by
              simp only [List.mem_append, List.mem_singleton] at hx
              rcases hx with hx | hx
              · exact h.pos x hx
              · omega
            fresh := fun x hx => by
              simp only [List.mem_append, List.mem_singleton] at hx
              rcases hx with hx | hx
              · have := h.fresh x hx; omega
              · omega
            nd := by
              refine List.nodup_append.2 ⟨h.nd, by simp, fun a ha b hb => ?_⟩
              simp only [List.mem_singleton] at hb
              have := h.fresh a ha; omega
            lw := by rw [List.length_append]; simp; omega }
          rw [acquire_none c W _ hc (by omega)]
          simp only [Option.bind_some]
          rw [decide_eq_false hc, if_neg (by decide), if_neg (by decide), if_pos (by omega)]
          exact plays_j2 l i c _ h' (by omega) k (by omega) (ih (i + 1) k c _ h' (by omega) (by omega) (by omega))
    · rw [if_neg cc, catafalquelaw10_SemPlays.j1, if_neg (by decide)]
set_option maxRecDepth 100000 in
theorem SemPlays : catafalquelaw10_SemPlays.Pure := by
  intro a l ha _ _ _
  obtain ⟨n, hn, en⟩ := u8_mod ha 5 (by omega) (by omega)
  have ea : wrap64 (Int.tmod a 5) = (n : Int) := en
  refine ⟨9000, ?_⟩
  unfold catafalquelaw10_SemPlays.f
  rw [shown_f, ea]
  simp only [Option.bind_some]
  have h : Play 0 (n : Int) [] := { c0 := by omega, c1 := by omega, w0 := fun _ => rfl, pos := by simp, fresh := by simp, nd := by simp, lw := Nat.le_refl _ }
  have p := plays_l0 l 300 0 9000 (n : Int) [] h (by omega) (by omega) (by omega)
  rw [Int.natCast_zero] at p
  exact p
end Go.Proofs.Ytblmhjfjkabocaa.Pure
