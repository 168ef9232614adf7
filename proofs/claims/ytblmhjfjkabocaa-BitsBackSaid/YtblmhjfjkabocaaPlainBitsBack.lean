/- The law BitsBack: its call tells true, whatever is handed in. -/
import Derived.Test.YtblmhjfjkabocaaWalkBitsBack
import Derived.Test.YtblmhjfjkabocaaBits
import Derived.Laws.BitsAllLaws
namespace Go.Proofs.Ytblmhjfjkabocaa.Pure
open Go.RowKit Go.Proofs.Ytblmhjfjkabocaa.PBitsBack Go.Proofs.YtblmhjfjkabocaaW.PrintWords Go.Proofs.YtblmhjfjkabocaaW.PrintLast Go.Proofs.YtblmhjfjkabocaaW.PrintMore Go.Proofs.Ytblmhjfjkabocaa.BC
theorem u64_nat (x : Int) (h : (Lit.int .u64 x).wf = true) : ∃ S : Nat, x = (S : Int) ∧ S < 18446744073709551616 := by
  have h2 : 0 ≤ x ∧ x < 18446744073709551616 := by
    simp only [Lit.wf, Bool.and_eq_true, decide_eq_true_eq] at h
    have e1 : IntKind.u64.min = 0 := by decide
    have e2 : IntKind.u64.max = 18446744073709551615 := by decide
    rw [e1, e2] at h; omega
  exact ⟨x.toNat, by omega, by omega⟩
theorem bit_f (n : Int) : bits_bit.f n = some ((bitN n : Nat) : Int) := by
  unfold bits_bit.f bitN
  by_cases h1 : n < 0
  · rw [if_pos h1, if_neg (by omega)]; rfl
  · rw [if_neg h1]
    by_cases h2 : n ≥ 64
    · rw [if_pos h2, if_neg (by omega)]; rfl
    · rw [if_neg h2, if_pos (by omega), if_pos (by omega)]
      have hl : 2 ^ n.toNat < 2 ^ 64 := (Nat.pow_lt_pow_iff_right (a := 2) (by decide)).2 (by omega)
      unfold shl
      rw [show min n.toNat IntKind.u64.bits = n.toNat from Nat.min_eq_left (by show n.toNat ≤ 64; omega), IntKind.wrap_u64, Int.one_mul]
      rw [show ((2 : Int) ^ n.toNat) = ((2 ^ n.toNat : Nat) : Int) by simp]
      congr 1
      exact Int.emod_eq_of_lt (Int.natCast_nonneg _) (by omega)

theorem has_f (S : Nat) (n : Int) (hS : S < 18446744073709551616) : bits_Set_Has.f (S : Int) n = some (has S n) := by
  unfold bits_Set_Has.f
  rw [bit_f]
  simp only [Option.bind_some]
  rw [u64_and_nat S (bitN n) hS (bitN_lt n), ← has_eq]
  by_cases h : S &&& bitN n = 0
  · rw [h]; simp
  · simp [h]


theorem with_f (S : Nat) (n : Int) (hS : S < 18446744073709551616) : bits_Set_With.f (S : Int) n = some ((S ||| bitN n : Nat) : Int) := by
  unfold bits_Set_With.f
  rw [bit_f]
  simp only [Option.bind_some]
  rw [u64_or_nat S (bitN n) hS (bitN_lt n)]

theorem wo_f (S : Nat) (n : Int) (hS : S < 18446744073709551616) : bits_Set_Without.f (S : Int) n = some ((wo S n : Nat) : Int) := by
  unfold bits_Set_Without.f
  rw [bit_f]
  simp only [Option.bind_some]
  rw [u64_andNot_nat S (bitN n) hS (bitN_lt n)]; rfl

theorem of_l (xs : List Int) (hx : xs.length ≤ maxLen) : ∀ (d k i S : Nat), S < 18446744073709551616 → i ≤ xs.length → xs.length - i = d → d < k →
    bits_Of.l0 k (S : Int) xs (xs.length : Int) (i : Int) = some ((setOf (xs.drop i) S : Nat) : Int) := by
  intro d
  induction d with
  | zero =>
    intro k i S hS hi hd hk
    obtain ⟨k, rfl⟩ : ∃ m, k = m + 1 := ⟨k - 1, by omega⟩
    simp only [bits_Of.l0]
    rw [if_neg (by omega), List.drop_of_length_le (by omega)]; rfl
  | succ d ih =>
    intro k i S hS hi hd hk
    obtain ⟨k, rfl⟩ : ∃ m, k = m + 1 := ⟨k - 1, by omega⟩
    simp only [bits_Of.l0]
    have hlt : i < xs.length := by omega
    have hr : rd xs (i : Int) = xs[i] := by unfold rd; simp [hlt]
    have hw : wrap64 ((i : Int) + 1) = ((i + 1 : Nat) : Int) := by unfold maxLen at hx; unfold wrap64; omega
    rw [if_pos (by omega), if_pos (by omega), if_pos (by omega), bit_f]
    simp only [Option.bind_some]
    rw [u64_or_nat S _ hS (bitN_lt _), hw, ih k (i + 1) _ (or_lt _ _ hS (bitN_lt _)) (by omega) (by omega) (by omega), hr, List.drop_eq_getElem_cons hlt]; rfl
theorem of_f (k : Nat) (xs : List Int) (hx : xs.length ≤ maxLen) (hk : xs.length < k) : bits_Of.f k xs = some ((setOf xs 0 : Nat) : Int) := by
  have h := of_l xs hx xs.length k 0 0 (by omega) (by omega) (by omega) hk
  unfold bits_Of.f
  simpa using h

theorem all_l (S : Nat) (hS : S < 18446744073709551616) : ∀ (d k i : Nat), i ≤ 64 → 64 - i = d → d < k →
    bits_Set_All.l0 k (S : Int) ((mem i S).map Int.ofNat) (i : Int) = some (all S) := by
  intro d
  induction d with
  | zero =>
    intro k i hi hd hk
    obtain ⟨k, rfl⟩ : ∃ m, k = m + 1 := ⟨k - 1, by omega⟩
    obtain rfl : i = 64 := by omega
    simp only [bits_Set_All.l0]
    rw [if_neg (by omega)]; rfl
  | succ d ih =>
    intro k i hi hd hk
    obtain ⟨k, rfl⟩ : ∃ m, k = m + 1 := ⟨k - 1, by omega⟩
    have hw : wrap64 ((i : Int) + 1) = ((i + 1 : Nat) : Int) := by unfold wrap64; omega
    have hl : ((mem i S).map Int.ofNat).length < 17592186044416 := by rw [List.length_map, mem_length]; have := pc_le i S; omega
    have ih' := ih k (i + 1) (by omega) (by omega) (by omega)
    have hm : mem (i + 1) S = mem i S ++ if S.testBit i = true then [i] else [] := by
      unfold mem; rw [List.range_succ, List.filter_append]; by_cases h : S.testBit i = true <;> simp [h]
    simp only [bits_Set_All.l0]
    rw [if_pos (by omega), has_f S _ hS]
    simp only [Option.bind_some]
    have hb : has S (i : Int) = S.testBit i := by unfold has; simp; omega
    rw [hb, hw]
    by_cases h : S.testBit i = true
    · rw [if_pos h, if_pos hl]
      rw [hm, if_pos h, List.map_append] at ih'
      exact ih'
    · rw [if_neg h]
      rw [hm, if_neg h, List.append_nil] at ih'
      exact ih'
theorem all_f (k S : Nat) (hS : S < 18446744073709551616) (hk : 64 < k) : bits_Set_All.f k (S : Int) = some (all S) := by
  unfold bits_Set_All.f
  exact all_l S hS 64 k 0 (by omega) (by omega) hk

theorem shown_f (k : Nat) (hk : 100 ≤ k) : catafalquelaw06_shown.f k = some true :=
  at_rounds catafalquelaw06_shown.mono hk (by decide +kernel)


/-- the first member from f + j on, f + 64 at the latest; else -1 -/
theorem next_l (S : Nat) (hS : S < 18446744073709551616) (f : Nat) (hf : f < 64) : ∀ (d k j : Nat), j ≤ 64 → 64 - j = d → d < k →
    (∃ j', j ≤ j' ∧ j' < 64 ∧ bits_Set_Next.l0 k (S : Int) (f : Int) (j : Int) = some (((f + j') % 64 : Nat) : Int) ∧ Q S (f + j') = true ∧ ∀ i, j ≤ i → i < j' → Q S (f + i) = false) ∨
    (bits_Set_Next.l0 k (S : Int) (f : Int) (j : Int) = some (-1) ∧ ∀ i, j ≤ i → i < 64 → Q S (f + i) = false) := by
  intro d
  induction d with
  | zero =>
    intro k j hj hd hk
    obtain ⟨k, rfl⟩ : ∃ m, k = m + 1 := ⟨k - 1, by omega⟩
    refine Or.inr ⟨?_, fun i h1 h2 => by omega⟩
    simp only [bits_Set_Next.l0]
    rw [if_neg (by omega)]
  | succ d ih =>
    intro k j hj hd hk
    obtain ⟨k, rfl⟩ : ∃ m, k = m + 1 := ⟨k - 1, by omega⟩
    have hh : has S (((f + j) % 64 : Nat) : Int) = Q S (f + j) := by
      unfold has Q; rw [decide_eq_true (by omega), Int.toNat_natCast, Bool.true_and]
    have hw : wrap64 ((j : Int) + 1) = ((j + 1 : Nat) : Int) := by unfold wrap64; omega
    have hw2 : Int.tmod (wrap64 ((f : Int) + (j : Int))) 64 = (((f + j) % 64 : Nat) : Int) := by
      have : wrap64 ((f : Int) + (j : Int)) = ((f + j : Nat) : Int) := by unfold wrap64; omega
      rw [this]; rfl
    simp only [bits_Set_Next.l0]
    rw [if_pos (by omega), hw2, has_f S _ hS]
    simp only [Option.bind_some]
    rw [hh, hw]
    by_cases h : Q S (f + j) = true
    · refine Or.inl ⟨j, Nat.le_refl _, by omega, ?_, h, fun i h1 h2 => by omega⟩
      rw [if_pos h]
    · rw [if_neg h]
      have h' : Q S (f + j) = false := by simpa using h
      rcases ih k (j + 1) (by omega) (by omega) (by omega) with ⟨j', a1, a2, a3, a4, a5⟩ | ⟨a1, a2⟩
      · refine Or.inl ⟨j', by omega, a2, a3, a4, fun i h1 h2 => ?_⟩
        by_cases e : i = j
        · rw [e]; exact h'
        · exact a5 i (by omega) h2
      · refine Or.inr ⟨a1, fun i h1 h2 => ?_⟩
        by_cases e : i = j
        · rw [e]; exact h'
        · exact a2 i (by omega) h2
/-- where a search begins -/
def fr (n : Int) : Nat := if 0 ≤ n ∧ n < 64 then n.toNat else 0
theorem fr_lt (n : Int) : fr n < 64 := by unfold fr; split <;> omega
theorem next_f (k S : Nat) (n : Int) (hS : S < 18446744073709551616) (hk : 70 < k) :
    (∃ j, j < 64 ∧ bits_Set_Next.f k (S : Int) n = some (((fr n + j) % 64 : Nat) : Int) ∧ Q S (fr n + j) = true ∧ ∀ i, i < j → Q S (fr n + i) = false) ∨
    (bits_Set_Next.f k (S : Int) n = some (-1) ∧ ∀ i, i < 64 → Q S (fr n + i) = false) := by
  obtain ⟨k, rfl⟩ : ∃ m, k = m + 2 := ⟨k - 2, by omega⟩
  have e : bits_Set_Next.f (k + 2) (S : Int) n = bits_Set_Next.l0 k (S : Int) ((fr n : Nat) : Int) 0 := by
    unfold bits_Set_Next.f fr
    by_cases h1 : n < 0
    · rw [if_pos h1, if_neg (by omega)]
      simp only [bits_Set_Next.j0, bits_Set_Next.j1]; rfl
    · rw [if_neg h1]
      by_cases h2 : n ≥ 64
      · rw [if_neg (by omega)]
        simp only [bits_Set_Next.j0, bits_Set_Next.j1, h2, decide_true, if_true]; rfl
      · rw [if_pos (by omega)]
        simp only [bits_Set_Next.j0, bits_Set_Next.j1]
        rw [if_neg (by simpa using h2)]
        congr 1; omega
  rw [e]
  rcases next_l S hS (fr n) (fr_lt n) 64 k 0 (by omega) (by omega) (by omega) with ⟨j', a1, a2, a3, a4, a5⟩ | ⟨a1, a2⟩
  · exact Or.inl ⟨j', a2, a3, a4, fun i h => a5 i (by omega) h⟩
  · exact Or.inr ⟨a1, fun i h => a2 i (by omega) h⟩


theorem BitsBack (x n : Int) (hx : (Lit.int .u64 x).wf = true) (w : World) :
    Calls Try.prog 6 #[.int .u64 x, .int .i64 n] w fun e w' => e = .returned (.bool true) ∧ Below w.heap.size w w' := by
  obtain ⟨S, rfl, hS⟩ := u64_nat x hx
  have hb := bitN_lt n
  have h1 := or_lt S _ hS hb
  have h2 := wo_lt S n hS
  have w1 : wo (S ||| bitN n) n = wo S n := by
    apply Nat.eq_of_testBit_eq; intro i
    rw [wo_test _ _ _ h1, wo_test _ _ _ hS, Nat.testBit_or]
    cases (S.testBit i) <;> cases ((bitN n).testBit i) <;> rfl
  have w2 : wo S n ||| bitN n = S ||| bitN n := by
    apply Nat.eq_of_testBit_eq; intro i
    rw [Nat.testBit_or, Nat.testBit_or, wo_test _ _ _ hS]
    cases (S.testBit i) <;> cases ((bitN n).testBit i) <;> rfl
  have w3 : has (S ||| bitN n) n = decide (0 ≤ n ∧ n < 64) := by
    unfold has
    by_cases h : 0 ≤ n ∧ n < 64
    · rw [Nat.testBit_or, bitN_test]; simp [h]; exact Or.inr (by omega)
    · simp [h]
  have w4 : has (wo S n) n = false := by
    unfold has
    rw [wo_test _ _ _ hS, bitN_test]
    by_cases h : 0 ≤ n ∧ n < 64
    · simp [h]; intro _; omega
    · simp [h]
  have hll : (all S).length ≤ 64 := by rw [all_length]; exact pc_le 64 S
  refine law_calls 101 S n _ _ _ w (shown_f 101 (by omega)) (all_f 101 S hS (by omega)) (by rw [of_f 101 _ (by unfold maxLen; omega) (by omega), setOf_all S hS]) (with_f S n hS) (by rw [with_f _ n h2, w2]) (wo_f S n hS) (by rw [wo_f _ n h1, w1]) (by rw [has_f _ n h1, w3]) (by rw [has_f _ n h2, w4]) (fun h => ?_)
  have hz : bitN n = 0 := by unfold bitN; rw [if_neg h]
  have hz2 : wo S n = S := by
    apply Nat.eq_of_testBit_eq; intro i
    rw [wo_test _ _ _ hS, hz]; simp
  rw [hz, hz2, Nat.or_zero]
  exact ⟨rfl, rfl⟩
end Go.Proofs.Ytblmhjfjkabocaa.Pure
