/- The law BitsCounts: its call tells true, whatever is handed in. -/
import Derived.Test.YtblmhjfjkabocaaWalkBitsCounts
import Derived.Test.YtblmhjfjkabocaaBits
import Derived.Laws.BitsAllLaws
namespace Go.Proofs.Ytblmhjfjkabocaa.Pure
open Go.RowKit Go.Proofs.Ytblmhjfjkabocaa.PBitsCounts Go.Proofs.YtblmhjfjkabocaaW.PrintWords Go.Proofs.YtblmhjfjkabocaaW.PrintLast Go.Proofs.YtblmhjfjkabocaaW.PrintMore Go.Proofs.Ytblmhjfjkabocaa.BC
theorem u64_nat (x : Int) (h : (Lit.int .u64 x).wf = true) : ∃ S : Nat, x = (S : Int) ∧ S < 18446744073709551616 := by
  have h2 : 0 ≤ x ∧ x < 18446744073709551616 := by
    simp only [Lit.wf, Bool.and_eq_true, decide_eq_true_eq] at h
    have e1 : IntKind.u64.min = 0 := by decide
    have e2 : IntKind.u64.max = 18446744073709551615 := by decide
    rw [e1, e2] at h; omega
  exact ⟨x.toNat, by omega, by omega⟩
theorem bit_f (n : Int) : bits_bit.f n = some ((bitN n : Nat) : Int) := by
  unfold bits_bit.f bitN
  by_cases h1 : n < 0
  · rw [if_pos h1, if_neg (by omega)]; rfl
  · rw [if_neg h1]
    by_cases h2 : n ≥ 64
    · rw [if_pos h2, if_neg (by omega)]; rfl
    · rw [if_neg h2, if_pos (by omega), if_pos (by omega)]
      have hl : 2 ^ n.toNat < 2 ^ 64 := (Nat.pow_lt_pow_iff_right (a := 2) (by decide)).2 (by omega)
      unfold shl
      rw [show min n.toNat IntKind.u64.bits = n.toNat from Nat.min_eq_left (by show n.toNat ≤ 64; omega), IntKind.wrap_u64, Int.one_mul]
      rw [show ((2 : Int) ^ n.toNat) = ((2 ^ n.toNat : Nat) : Int) by simp]
      congr 1
      exact Int.emod_eq_of_lt (Int.natCast_nonneg _) (by omega)

theorem has_f (S : Nat) (n : Int) (hS : S < 18446744073709551616) : bits_Set_Has.f (S : Int) n = some (has S n) := by
  unfold bits_Set_Has.f
  rw [bit_f]
  simp only [Option.bind_some]
  rw [u64_and_nat S (bitN n) hS (bitN_lt n), ← has_eq]
  by_cases h : S &&& bitN n = 0
  · rw [h]; simp
  · simp [h]


theorem with_f (S : Nat) (n : Int) (hS : S < 18446744073709551616) : bits_Set_With.f (S : Int) n = some ((S ||| bitN n : Nat) : Int) := by
  unfold bits_Set_With.f
  rw [bit_f]
  simp only [Option.bind_some]
  rw [u64_or_nat S (bitN n) hS (bitN_lt n)]

theorem of_l (xs : List Int) (hx : xs.length ≤ maxLen) : ∀ (d k i S : Nat), S < 18446744073709551616 → i ≤ xs.length → xs.length - i = d → d < k →
    bits_Of.l0 k (S : Int) xs (xs.length : Int) (i : Int) = some ((setOf (xs.drop i) S : Nat) : Int) := by
  intro d
  induction d with
  | zero =>
    intro k i S hS hi hd hk
    obtain ⟨k, rfl⟩ : ∃ m, k = m + 1 := ⟨k - 1, by omega⟩
    simp only [bits_Of.l0]
    rw [if_neg (by omega), List.drop_of_length_le (by omega)]; rfl
  | succ d ih =>
    intro k i S hS hi hd hk
    obtain ⟨k, rfl⟩ : ∃ m, k = m + 1 := ⟨k - 1, by omega⟩
    simp only [bits_Of.l0]
    have hlt : i < xs.length := by omega
    have hr : rd xs (i : Int) = xs[i] := by unfold rd; simp [hlt]
    have hw : wrap64 ((i : Int) + 1) = ((i + 1 : Nat) : Int) := by unfold maxLen at hx; unfold wrap64; omega
    rw [if_pos (by omega), if_pos (by omega), if_pos (by omega), bit_f]
    simp only [Option.bind_some]
    rw [u64_or_nat S _ hS (bitN_lt _), hw, ih k (i + 1) _ (or_lt _ _ hS (bitN_lt _)) (by omega) (by omega) (by omega), hr, List.drop_eq_getElem_cons hlt]; rfl
theorem of_f (k : Nat) (xs : List Int) (hx : xs.length ≤ maxLen) (hk : xs.length < k) : bits_Of.f k xs = some ((setOf xs 0 : Nat) : Int) := by
  have h := of_l xs hx xs.length k 0 0 (by omega) (by omega) (by omega) hk
  unfold bits_Of.f
  simpa using h

theorem all_l (S : Nat) (hS : S < 18446744073709551616) : ∀ (d k i : Nat), i ≤ 64 → 64 - i = d → d < k →
    bits_Set_All.l0 k (S : Int) ((mem i S).map Int.ofNat) (i : Int) = some (all S) := by
  intro d
  induction d with
  | zero =>
    intro k i hi hd hk
    obtain ⟨k, rfl⟩ : ∃ m, k = m + 1 := ⟨k - 1, by omega⟩
    obtain rfl : i = 64 := by omega
    simp only [bits_Set_All.l0]
    rw [if_neg (by omega)]; rfl
  | succ d ih =>
    intro k i hi hd hk
    obtain ⟨k, rfl⟩ : ∃ m, k = m + 1 := ⟨k - 1, by omega⟩
    have hw : wrap64 ((i : Int) + 1) = ((i + 1 : Nat) : Int) := by unfold wrap64; omega
    have hl : ((mem i S).map Int.ofNat).length < 17592186044416 := by rw [List.length_map, mem_length]; have := pc_le i S; omega
    have ih' := ih k (i + 1) (by omega) (by omega) (by omega)
    have hm : mem (i + 1) S = mem i S ++ if S.testBit i = true then [i] else [] := by
      unfold mem; rw [List.range_succ, List.filter_append]; by_cases h : S.testBit i = true <;> simp [h]
    simp only [bits_Set_All.l0]
    rw [if_pos (by omega), has_f S _ hS]
    simp only [Option.bind_some]
    have hb : has S (i : Int) = S.testBit i := by unfold has; simp; omega
    rw [hb, hw]
    by_cases h : S.testBit i = true
    · rw [if_pos h, if_pos hl]
      rw [hm, if_pos h, List.map_append] at ih'
      exact ih'
    · rw [if_neg h]
      rw [hm, if_neg h, List.append_nil] at ih'
      exact ih'
theorem all_f (k S : Nat) (hS : S < 18446744073709551616) (hk : 64 < k) : bits_Set_All.f k (S : Int) = some (all S) := by
  unfold bits_Set_All.f
  exact all_l S hS 64 k 0 (by omega) (by omega) hk

theorem count_l {m : Nat} (hm : m = 64) : ∀ (d k S : Nat) (c : Int), S < 18446744073709551616 → 0 ≤ c → c + pc m S ≤ 64 → pc m S = d → d < k →
    bits_Set_Count.l0 k (S : Int) c = some (c + pc m S) := by
  intro d
  induction d with
  | zero =>
    intro k S c hS h0 hc hd hk
    obtain ⟨k, rfl⟩ : ∃ m, k = m + 1 := ⟨k - 1, by omega⟩
    simp only [bits_Set_Count.l0]
    have : S = 0 := by
      by_cases e : S = 0
      · exact e
      · have := pc_less m S e (by rw [hm]; exact hS); omega
    rw [if_pos (by omega), hd]; simp
  | succ d ih =>
    intro k S c hS h0 hc hd hk
    obtain ⟨k, rfl⟩ : ∃ m, k = m + 1 := ⟨k - 1, by omega⟩
    have e : S ≠ 0 := by intro e; subst e; rw [pc_zero] at hd; omega
    have hl := pc_less m S e (by rw [hm]; exact hS)
    have hw : wrap64 (c + 1) = c + 1 := by unfold wrap64; omega
    have hs : IntKind.u64.wrap ((S : Int) - 1) = ((S - 1 : Nat) : Int) := by rw [IntKind.wrap_u64]; omega
    have hi := ih k (S &&& (S - 1)) (c + 1) (and_lt S 64 hS _) (by omega) (by omega) (by omega) (by omega)
    simp only [bits_Set_Count.l0]
    rw [if_neg (by omega), hs, u64_and_nat S (S - 1) hS (by omega), hw, hi]
    congr 1; omega
theorem count_f {m : Nat} (hm : m = 64) (k S : Nat) (hS : S < 18446744073709551616) (hk : 64 < k) : bits_Set_Count.f k (S : Int) = some ((pc m S : Nat) : Int) := by
  unfold bits_Set_Count.f
  have := pc_le m S
  rw [count_l hm (pc m S) k S 0 hS (by omega) (by omega) rfl (by omega)]; simp

theorem shown_f (k : Nat) (hk : 100 ≤ k) : catafalquelaw06_shown.f k = some true :=
  at_rounds catafalquelaw06_shown.mono hk (by decide +kernel)


/-- the first member from f + j on, f + 64 at the latest; else -1 -/
theorem next_l (S : Nat) (hS : S < 18446744073709551616) (f : Nat) (hf : f < 64) : ∀ (d k j : Nat), j ≤ 64 → 64 - j = d → d < k →
    (∃ j', j ≤ j' ∧ j' < 64 ∧ bits_Set_Next.l0 k (S : Int) (f : Int) (j : Int) = some (((f + j') % 64 : Nat) : Int) ∧ Q S (f + j') = true ∧ ∀ i, j ≤ i → i < j' → Q S (f + i) = false) ∨
    (bits_Set_Next.l0 k (S : Int) (f : Int) (j : Int) = some (-1) ∧ ∀ i, j ≤ i → i < 64 → Q S (f + i) = false) := by
  intro d
  induction d with
  | zero =>
    intro k j hj hd hk
    obtain ⟨k, rfl⟩ : ∃ m, k = m + 1 := ⟨k - 1, by omega⟩
    refine Or.inr ⟨?_, fun i h1 h2 => by omega⟩
    simp only [bits_Set_Next.l0]
    rw [if_neg (by omega)]
  | succ d ih =>
    intro k j hj hd hk
    obtain ⟨k, rfl⟩ : ∃ m, k = m + 1 := ⟨k - 1, by omega⟩
    have hh : has S (((f + j) % 64 : Nat) : Int) = Q S (f + j) := by
      unfold has Q; rw [decide_eq_true (by omega), Int.toNat_natCast, Bool.true_and]
    have hw : wrap64 ((j : Int) + 1) = ((j + 1 : Nat) : Int) := by unfold wrap64; omega
    have hw2 : Int.tmod (wrap64 ((f : Int) + (j : Int))) 64 = (((f + j) % 64 : Nat) : Int) := by
      have : wrap64 ((f : Int) + (j : Int)) = ((f + j : Nat) : Int) := by unfold wrap64; omega
      rw [this]; rfl
    simp only [bits_Set_Next.l0]
    rw [if_pos (by omega), hw2, has_f S _ hS]
    simp only [Option.bind_some]
    rw [hh, hw]
    by_cases h : Q S (f + j) = true
    · refine Or.inl ⟨j, Nat.le_refl _, by omega, ?_, h, fun i h1 h2 => by omega⟩
      rw [if_pos h]
    · rw [if_neg h]
      have h' : Q S (f + j) = false := by simpa using h
      rcases ih k (j + 1) (by omega) (by omega) (by omega) with ⟨j', a1, a2, a3, a4, a5⟩ | ⟨a1, a2⟩
      · refine Or.inl ⟨j', by omega, a2, a3, a4, fun i h1 h2 => ?_⟩
        by_cases e : i = j
        · rw [e]; exact h'
        · exact a5 i (by omega) h2
      · refine Or.inr ⟨a1, fun i h1 h2 => ?_⟩
        by_cases e : i = j
        · rw [e]; exact h'
        · exact a2 i (by omega) h2
/-- where a search begins -/
def fr (n : Int) : Nat := if 0 ≤ n ∧ n < 64 then n.toNat else 0
theorem fr_lt (n : Int) : fr n < 64 := by unfold fr; split <;> omega
theorem next_f (k S : Nat) (n : Int) (hS : S < 18446744073709551616) (hk : 70 < k) :
    (∃ j, j < 64 ∧ bits_Set_Next.f k (S : Int) n = some (((fr n + j) % 64 : Nat) : Int) ∧ Q S (fr n + j) = true ∧ ∀ i, i < j → Q S (fr n + i) = false) ∨
    (bits_Set_Next.f k (S : Int) n = some (-1) ∧ ∀ i, i < 64 → Q S (fr n + i) = false) := by
  obtain ⟨k, rfl⟩ : ∃ m, k = m + 2 := ⟨k - 2, by omega⟩
  have e : bits_Set_Next.f (k + 2) (S : Int) n = bits_Set_Next.l0 k (S : Int) ((fr n : Nat) : Int) 0 := by
    unfold bits_Set_Next.f fr
    by_cases h1 : n < 0
    · rw [if_pos h1, if_neg (by omega)]
      simp only [bits_Set_Next.j0, bits_Set_Next.j1]; rfl
    · rw [if_neg h1]
      by_cases h2 : n ≥ 64
      · rw [if_neg (by omega)]
        simp only [bits_Set_Next.j0, bits_Set_Next.j1, h2, decide_true, if_true]; rfl
      · rw [if_pos (by omega)]
        simp only [bits_Set_Next.j0, bits_Set_Next.j1]
        rw [if_neg (by simpa using h2)]
        congr 1; omega
  rw [e]
  rcases next_l S hS (fr n) (fr_lt n) 64 k 0 (by omega) (by omega) (by omega) with ⟨j', a1, a2, a3, a4, a5⟩ | ⟨a1, a2⟩
  · exact Or.inl ⟨j', a2, a3, a4, fun i h => a5 i (by omega) h⟩
  · exact Or.inr ⟨a1, fun i h => a2 i (by omega) h⟩


theorem pc_with (S : Nat) (n : Int) {m : Nat} (hm : m = 64) : pc m (S ||| bitN n) = pc m S + if 0 ≤ n ∧ n < 64 ∧ has S n = false then 1 else 0 := by
  have hj := pc_join m S (bitN n)
  by_cases h : 0 ≤ n ∧ n < 64
  · have hb : pc m (bitN n) = 1 := by
      have h1 := pc_less m (bitN n) (by unfold bitN; rw [if_pos h]; exact Nat.ne_of_gt (Nat.two_pow_pos _)) (by rw [hm]; exact bitN_lt n)
      have h2 : bitN n &&& (bitN n - 1) = 0 := by unfold bitN; rw [if_pos h, Nat.and_two_pow_sub_one_eq_mod]; exact Nat.mod_self _
      rw [h2, pc_zero] at h1; omega
    by_cases hh : has S n = true
    · have e : S &&& bitN n = bitN n := by
        apply Nat.eq_of_testBit_eq; intro i
        rw [Nat.testBit_and, bitN_test]
        unfold has at hh
        simp only [Bool.and_eq_true, decide_eq_true_eq] at hh
        by_cases e : n = i
        · have : i = n.toNat := by omega
          rw [this, hh.2]; simp
        · simp [e]
      rw [e, hb] at hj
      rw [if_neg (by rw [hh]; simp)]; omega
    · have hh' : has S n = false := by simpa using hh
      have e : S &&& bitN n = 0 := by have := has_eq S n; rw [hh'] at this; simpa using this
      have hz : pc m (S &&& bitN n) = 0 := by rw [e]; exact pc_zero m
      rw [if_pos ⟨h.1, h.2, hh'⟩]; omega
  · have hz : bitN n = 0 := by unfold bitN; rw [if_neg h]
    rw [hz, Nat.or_zero, if_neg (by omega)]; rfl

theorem BitsCounts (x n : Int) (hx : (Lit.int .u64 x).wf = true) (w : World) :
    Calls Try.prog 9 #[.int .u64 x, .int .i64 n] w fun e w' => e = .returned (.bool true) ∧ Below w.heap.size w w' := by
  obtain ⟨S, rfl, hS⟩ := u64_nat x hx
  obtain ⟨m, hm⟩ : ∃ m : Nat, m = 64 := ⟨_, rfl⟩
  have hl := pc_le m S
  have ho := or_lt S _ hS (bitN_lt n)
  have hp := pc_with S n hm
  have ha : (all S).length = pc m S := by rw [all_length, hm]
  refine law_calls 101 S n _ (has S n) _ _ _ w (shown_f 101 (by omega)) (has_f S n hS) (with_f S n hS) (all_f 101 S hS (by omega)) (count_f hm 101 S hS (by omega)) (count_f hm 101 _ ho (by omega)) (by omega) (by omega) (by rw [ha]; exact beq_self_eq_true _) ?_
  rw [beq_iff_eq, hp]
  split <;> simp
end Go.Proofs.Ytblmhjfjkabocaa.Pure
