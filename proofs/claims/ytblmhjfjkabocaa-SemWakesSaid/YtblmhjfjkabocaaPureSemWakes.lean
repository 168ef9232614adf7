/- The plain law SemWakes. -/
import Derived.Test.YtblmhjfjkabocaaQWakesx2
namespace Go.Proofs.Ytblmhjfjkabocaa.Pure
open Go Go.RowKit Go.Proofs.Ytblmhjfjkabocaa.QWakes Go.Proofs.YtblmhjfjkabocaaW.PrintWords Go.Proofs.YtblmhjfjkabocaaW.PrintLast Go.Proofs.YtblmhjfjkabocaaW.PrintMore
/-! ### semaphores, plainly -/
theorem clone_f (l : List Int) (h : l.length < 1000000) : slices_Clone_int_int.f l = some l := by
  unfold slices_Clone_int_int.f
  simp only [Option.bind_some, List.length_nil, List.nil_append]
  rw [if_pos (by omega)]
theorem acquire_some (c : Int) (l : List Int) (g : Int) (h : 0 < c) (hc : c ≤ 1000000) (hl : l.length < 1000000) : sem_Acquire.f c l g = some (c - 1, l, true) := by
  unfold sem_Acquire.f
  rw [if_pos h, clone_f l hl, show wrap64 (c - 1) = c - 1 from by unfold wrap64; omega]; rfl
theorem acquire_none (c : Int) (l : List Int) (g : Int) (h : ¬ 0 < c) (hl : l.length < 999999) : sem_Acquire.f c l g = some (c, l ++ [g], false) := by
  unfold sem_Acquire.f
  rw [if_neg h, clone_f l (by omega)]
  simp only [Option.bind_some, List.length_singleton]
  rw [if_pos (by omega)]
theorem release_wait (c : Int) (x : Int) (l : List Int) (hl : l.length < 999999) : sem_Release.f c (x :: l) = some (c, l, x) := by
  unfold sem_Release.f
  have q : ((x :: l).length : Int) > 0 := by rw [List.length_cons]; omega
  rw [if_pos q, if_pos (by omega), List.drop_one, List.tail_cons, clone_f l (by omega)]
  simp only [Option.bind_some]
  rw [if_pos q]; rfl
theorem release_none (c : Int) (h : c < 1000000) (h0 : 0 ≤ c) : sem_Release.f c [] = some (c + 1, [], 0) := by
  unfold sem_Release.f
  rw [if_neg (by simp), if_neg (by omega), show wrap64 (c + 1) = c + 1 from by unfold wrap64; omega]
/-- who waits: from a on, m of them -/
def row (a m : Nat) : List Int := (List.range' a m).map Int.ofNat
theorem row_length (a m : Nat) : (row a m).length = m := by unfold row; rw [List.length_map, List.length_range']
theorem row_snoc (a m : Nat) : row a (m + 1) = row a m ++ [((a + m : Nat) : Int)] := by unfold row; rw [List.range'_concat, List.map_append]; simp
theorem row_cons (a m : Nat) : row a (m + 1) = (a : Int) :: row (a + 1) m := by unfold row; rw [List.range'_succ, List.map_cons]; rfl
theorem wakes_l1 (c n : Nat) (hc : c ≤ 5) (hn : n ≤ 39) : ∀ (d k j : Nat) (x : Int), c + 1 ≤ j → j ≤ n + 1 ∨ j = c + 1 → n + 1 - j = d → d < k → x = ((c - n : Nat) : Int) →
    catafalquelaw10_SemWakes.l1 k true (c : Int) (n : Int) (j : Int) x (row j (n + 1 - j)) = some true := by
  intro d
  induction d with
  | zero =>
    intro k j x h1 h2 hd hk hx
    obtain ⟨k, rfl⟩ : ∃ m, k = m + 1 := ⟨k - 1, by omega⟩
    have q : ¬ (j : Int) ≤ (n : Int) := by omega
    have e : wrap64 ((mx (wrap64 ((c : Int) - (n : Int))) 0) + 1) = x + 1 := by
      have : wrap64 ((c : Int) - (n : Int)) = (c : Int) - (n : Int) := by unfold wrap64; omega
      rw [this]; unfold mx wrap64; split <;> omega
    rw [hd, catafalquelaw10_SemWakes.l1, if_neg q, show row j 0 = [] from rfl, release_none x (by omega) (by omega)]
    simp only [Option.bind_some, if_true]
    rw [e]; simp
  | succ d ih =>
    intro k j x h1 h2 hd hk hx
    obtain ⟨k, rfl⟩ : ∃ m, k = m + 1 := ⟨k - 1, by omega⟩
    have q : (j : Int) ≤ (n : Int) := by omega
    have i1 := ih k (j + 1) x (by omega) (by omega) (by omega) (by omega) hx
    have hw : wrap64 ((j : Int) + 1) = ((j + 1 : Nat) : Int) := by unfold wrap64; omega
    rw [hd, row_cons, catafalquelaw10_SemWakes.l1, if_pos q, release_wait x _ _ (by rw [row_length]; omega)]
    simp only [Option.bind_some, if_true]
    rw [hw]
    rw [show n + 1 - (j + 1) = d by omega] at i1
    exact i1
theorem wakes_l0 (c n : Nat) (hc : c ≤ 5) (hn : n ≤ 39) : ∀ (d k i : Nat), 1 ≤ i → i ≤ n + 1 → n + 1 - i = d → d + 100 < k →
    catafalquelaw10_SemWakes.l0 k true (c : Int) (n : Int) (i : Int) ((c - (i - 1) : Nat) : Int) (row (c + 1) (i - 1 - c)) = some true := by
  intro d
  induction d with
  | zero =>
    intro k i h1 h2 hd hk
    obtain ⟨k, rfl⟩ : ∃ m, k = m + 1 := ⟨k - 1, by omega⟩
    have q : ¬ (i : Int) ≤ (n : Int) := by omega
    have hw : wrap64 ((c : Int) + 1) = ((c + 1 : Nat) : Int) := by unfold wrap64; omega
    rw [catafalquelaw10_SemWakes.l0, if_neg q, hw]
    have := wakes_l1 c n hc hn (n + 1 - (c + 1)) k (c + 1) ((c - n : Nat) : Int) (Nat.le_refl _) (Or.inr rfl) rfl (by omega) rfl
    rw [show i - 1 - c = n + 1 - (c + 1) by omega, show c - (i - 1) = c - n by omega]
    exact this
  | succ d ih =>
    intro k i h1 h2 hd hk
    obtain ⟨k, rfl⟩ : ∃ m, k = m + 1 := ⟨k - 1, by omega⟩
    have q : (i : Int) ≤ (n : Int) := by omega
    have i1 := ih k (i + 1) (by omega) (by omega) (by omega) (by omega)
    have hw : wrap64 ((i : Int) + 1) = ((i + 1 : Nat) : Int) := by unfold wrap64; omega
    rw [catafalquelaw10_SemWakes.l0, if_pos q]
    by_cases h : i ≤ c
    · have q2 : (i : Int) ≤ (c : Int) := by omega
      rw [acquire_some _ _ _ (by omega) (by omega) (by rw [row_length]; omega)]
      simp only [Option.bind_some]
      rw [decide_eq_true q2, if_neg (by decide), hw]
      rw [show i + 1 - 1 - c = i - 1 - c by omega, show ((c - (i + 1 - 1) : Nat) : Int) = ((c - (i - 1) : Nat) : Int) - 1 by omega] at i1
      exact i1
    · have q2 : ¬ (i : Int) ≤ (c : Int) := by omega
      rw [acquire_none _ _ _ (by omega) (by rw [row_length]; omega)]
      simp only [Option.bind_some]
      rw [decide_eq_false q2, if_neg (by decide), hw]
      rw [show i + 1 - 1 - c = (i - 1 - c) + 1 by omega, row_snoc, show c + 1 + (i - 1 - c) = i by omega, show c - (i + 1 - 1) = c - (i - 1) by omega] at i1
      exact i1
theorem u8_mod {a : Int} (h : (Lit.int .u8 a).wf = true) (m : Nat) (hm : 0 < m) (hm2 : m < 300) : ∃ r : Nat, r < m ∧ wrap64 (Int.tmod a (m : Int)) = (r : Int) := by
  simp only [Lit.wf, Bool.and_eq_true, decide_eq_true_eq] at h
  have e1 : IntKind.u8.min = 0 := by decide
  have e2 : IntKind.u8.max = 255 := by decide
  rw [e1, e2] at h
  obtain ⟨n, rfl⟩ : ∃ n : Nat, a = (n : Int) := ⟨a.toNat, by omega⟩
  have hl := Nat.mod_lt n hm
  have e : Int.tmod (n : Int) (m : Int) = ((n % m : Nat) : Int) := rfl
  refine ⟨n % m, hl, ?_⟩
  rw [e]
  generalize n % m = r at hl
  unfold wrap64; omega
theorem SemWakes : catafalquelaw10_SemWakes.Pure := by
  intro a b ha hb
  obtain ⟨c, hc, ec⟩ := u8_mod ha 6 (by omega) (by omega)
  obtain ⟨n, hn, en⟩ := u8_mod hb 40 (by omega) (by omega)
  have ec' : wrap64 (Int.tmod a 6) = (c : Int) := ec
  have en' : wrap64 (Int.tmod b 40) = (n : Int) := en
  have hs : catafalquelaw10_shown.f = some true := by decide +kernel
  refine ⟨300, ?_⟩
  unfold catafalquelaw10_SemWakes.f
  rw [hs, ec', en']
  simp only [Option.bind_some]
  have := wakes_l0 c n (by omega) (by omega) n 300 1 (Nat.le_refl _) (by omega) (by omega) (by omega)
  rw [show 1 - 1 - c = 0 by omega, show c - (1 - 1) = c by omega] at this
  exact this
end Go.Proofs.Ytblmhjfjkabocaa.Pure
