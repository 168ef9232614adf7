/- In whatever order numbers come, and however often, they are the same set. No condition: every input. -/
import Derived.Test.YtblmhjfjkabocaaPBitsOrderx2
import Derived.Test.YtblmhjfjkabocaaBits
import Derived.Laws.BitsAllLaws
namespace Go.Proofs.Ytblmhjfjkabocaa.Pure
open Go.RowKit Go.Proofs.Ytblmhjfjkabocaa.PBitsOrder Go.Proofs.YtblmhjfjkabocaaW.PrintWords Go.Proofs.YtblmhjfjkabocaaW.PrintLast Go.Proofs.YtblmhjfjkabocaaW.PrintMore Go.Proofs.Ytblmhjfjkabocaa.BC
theorem u64_nat (x : Int) (h : (Lit.int .u64 x).wf = true) : ∃ S : Nat, x = (S : Int) ∧ S < 18446744073709551616 := by
  have h2 : 0 ≤ x ∧ x < 18446744073709551616 := by
    simp only [Lit.wf, Bool.and_eq_true, decide_eq_true_eq] at h
    have e1 : IntKind.u64.min = 0 := by decide
    have e2 : IntKind.u64.max = 18446744073709551615 := by decide
    rw [e1, e2] at h; omega
  exact ⟨x.toNat, by omega, by omega⟩
theorem bit_f (n : Int) : bits_bit.f n = some ((bitN n : Nat) : Int) := by
  unfold bits_bit.f bitN
  by_cases h1 : n < 0
  · rw [if_pos h1, if_neg (by omega)]; rfl
  · rw [if_neg h1]
    by_cases h2 : n ≥ 64
    · rw [if_pos h2, if_neg (by omega)]; rfl
    · rw [if_neg h2, if_pos (by omega), if_pos (by omega)]
      have hl : 2 ^ n.toNat < 2 ^ 64 := (Nat.pow_lt_pow_iff_right (a := 2) (by decide)).2 (by omega)
      unfold shl
      rw [show min n.toNat IntKind.u64.bits = n.toNat from Nat.min_eq_left (by show n.toNat ≤ 64; omega), IntKind.wrap_u64, Int.one_mul]
      rw [show ((2 : Int) ^ n.toNat) = ((2 ^ n.toNat : Nat) : Int) by simp]
      congr 1
      exact Int.emod_eq_of_lt (Int.natCast_nonneg _) (by omega)

theorem has_f (S : Nat) (n : Int) (hS : S < 18446744073709551616) : bits_Set_Has.f (S : Int) n = some (has S n) := by
  unfold bits_Set_Has.f
  rw [bit_f]
  simp only [Option.bind_some]
  rw [u64_and_nat S (bitN n) hS (bitN_lt n), ← has_eq]
  by_cases h : S &&& bitN n = 0
  · rw [h]; simp
  · simp [h]


theorem with_f (S : Nat) (n : Int) (hS : S < 18446744073709551616) : bits_Set_With.f (S : Int) n = some ((S ||| bitN n : Nat) : Int) := by
  unfold bits_Set_With.f
  rw [bit_f]
  simp only [Option.bind_some]
  rw [u64_or_nat S (bitN n) hS (bitN_lt n)]

theorem of_l (xs : List Int) (hx : xs.length ≤ maxLen) : ∀ (d k i S : Nat), S < 18446744073709551616 → i ≤ xs.length → xs.length - i = d → d < k →
    bits_Of.l0 k (S : Int) xs (xs.length : Int) (i : Int) = some ((setOf (xs.drop i) S : Nat) : Int) := by
  intro d
  induction d with
  | zero =>
    intro k i S hS hi hd hk
    obtain ⟨k, rfl⟩ : ∃ m, k = m + 1 := ⟨k - 1, by omega⟩
    simp only [bits_Of.l0]
    rw [if_neg (by omega), List.drop_of_length_le (by omega)]; rfl
  | succ d ih =>
    intro k i S hS hi hd hk
    obtain ⟨k, rfl⟩ : ∃ m, k = m + 1 := ⟨k - 1, by omega⟩
    simp only [bits_Of.l0]
    have hlt : i < xs.length := by omega
    have hr : rd xs (i : Int) = xs[i] := by unfold rd; simp [hlt]
    have hw : wrap64 ((i : Int) + 1) = ((i + 1 : Nat) : Int) := by unfold maxLen at hx; unfold wrap64; omega
    rw [if_pos (by omega), if_pos (by omega), if_pos (by omega), bit_f]
    simp only [Option.bind_some]
    rw [u64_or_nat S _ hS (bitN_lt _), hw, ih k (i + 1) _ (or_lt _ _ hS (bitN_lt _)) (by omega) (by omega) (by omega), hr, List.drop_eq_getElem_cons hlt]; rfl
theorem of_f (k : Nat) (xs : List Int) (hx : xs.length ≤ maxLen) (hk : xs.length < k) : bits_Of.f k xs = some ((setOf xs 0 : Nat) : Int) := by
  have h := of_l xs hx xs.length k 0 0 (by omega) (by omega) (by omega) hk
  unfold bits_Of.f
  simpa using h

theorem all_l (S : Nat) (hS : S < 18446744073709551616) : ∀ (d k i : Nat), i ≤ 64 → 64 - i = d → d < k →
    bits_Set_All.l0 k (S : Int) ((mem i S).map Int.ofNat) (i : Int) = some (all S) := by
  intro d
  induction d with
  | zero =>
    intro k i hi hd hk
    obtain ⟨k, rfl⟩ : ∃ m, k = m + 1 := ⟨k - 1, by omega⟩
    obtain rfl : i = 64 := by omega
    simp only [bits_Set_All.l0]
    rw [if_neg (by omega)]; rfl
  | succ d ih =>
    intro k i hi hd hk
    obtain ⟨k, rfl⟩ : ∃ m, k = m + 1 := ⟨k - 1, by omega⟩
    have hw : wrap64 ((i : Int) + 1) = ((i + 1 : Nat) : Int) := by unfold wrap64; omega
    have hl : ((mem i S).map Int.ofNat).length < 17592186044416 := by rw [List.length_map, mem_length]; have := pc_le i S; omega
    have ih' := ih k (i + 1) (by omega) (by omega) (by omega)
    have hm : mem (i + 1) S = mem i S ++ if S.testBit i = true then [i] else [] := by
      unfold mem; rw [List.range_succ, List.filter_append]; by_cases h : S.testBit i = true <;> simp [h]
    simp only [bits_Set_All.l0]
    rw [if_pos (by omega), has_f S _ hS]
    simp only [Option.bind_some]
    have hb : has S (i : Int) = S.testBit i := by unfold has; simp; omega
    rw [hb, hw]
    by_cases h : S.testBit i = true
    · rw [if_pos h, if_pos hl]
      rw [hm, if_pos h, List.map_append] at ih'
      exact ih'
    · rw [if_neg h]
      rw [hm, if_neg h, List.append_nil] at ih'
      exact ih'
theorem all_f (k S : Nat) (hS : S < 18446744073709551616) (hk : 64 < k) : bits_Set_All.f k (S : Int) = some (all S) := by
  unfold bits_Set_All.f
  exact all_l S hS 64 k 0 (by omega) (by omega) hk

theorem shown_f (k : Nat) (hk : 100 ≤ k) : catafalquelaw06_shown.f k = some true :=
  at_rounds catafalquelaw06_shown.mono hk (by decide +kernel)


/-- the first member from f + j on, f + 64 at the latest; else -1 -/
theorem next_l (S : Nat) (hS : S < 18446744073709551616) (f : Nat) (hf : f < 64) : ∀ (d k j : Nat), j ≤ 64 → 64 - j = d → d < k →
    (∃ j', j ≤ j' ∧ j' < 64 ∧ bits_Set_Next.l0 k (S : Int) (f : Int) (j : Int) = some (((f + j') % 64 : Nat) : Int) ∧ Q S (f + j') = true ∧ ∀ i, j ≤ i → i < j' → Q S (f + i) = false) ∨
    (bits_Set_Next.l0 k (S : Int) (f : Int) (j : Int) = some (-1) ∧ ∀ i, j ≤ i → i < 64 → Q S (f + i) = false) := by
  intro d
  induction d with
  | zero =>
    intro k j hj hd hk
    obtain ⟨k, rfl⟩ : ∃ m, k = m + 1 := ⟨k - 1, by omega⟩
    refine Or.inr ⟨?_, fun i h1 h2 => by omega⟩
    simp only [bits_Set_Next.l0]
    rw [if_neg (by omega)]
  | succ d ih =>
    intro k j hj hd hk
    obtain ⟨k, rfl⟩ : ∃ m, k = m + 1 := ⟨k - 1, by omega⟩
    have hh : has S (((f + j) % 64 : Nat) : Int) = Q S (f + j) := by
      unfold has Q; rw [decide_eq_true (by omega), Int.toNat_natCast, Bool.true_and]
    have hw : wrap64 ((j : Int) + 1) = ((j + 1 : Nat) : Int) := by unfold wrap64; omega
    have hw2 : Int.tmod (wrap64 ((f : Int) + (j : Int))) 64 = (((f + j) % 64 : Nat) : Int) := by
      have : wrap64 ((f : Int) + (j : Int)) = ((f + j : Nat) : Int) := by unfold wrap64; omega
      rw [this]; rfl
    simp only [bits_Set_Next.l0]
    rw [if_pos (by omega), hw2, has_f S _ hS]
    simp only [Option.bind_some]
    rw [hh, hw]
    by_cases h : Q S (f + j) = true
    · refine Or.inl ⟨j, Nat.le_refl _, by omega, ?_, h, fun i h1 h2 => by omega⟩
      rw [if_pos h]
    · rw [if_neg h]
      have h' : Q S (f + j) = false := by simpa using h
      rcases ih k (j + 1) (by omega) (by omega) (by omega) with ⟨j', a1, a2, a3, a4, a5⟩ | ⟨a1, a2⟩
      · refine Or.inl ⟨j', by omega, a2, a3, a4, fun i h1 h2 => ?_⟩
        by_cases e : i = j
        · rw [e]; exact h'
        · exact a5 i (by omega) h2
      · refine Or.inr ⟨a1, fun i h1 h2 => ?_⟩
        by_cases e : i = j
        · rw [e]; exact h'
        · exact a2 i (by omega) h2
/-- where a search begins -/
def fr (n : Int) : Nat := if 0 ≤ n ∧ n < 64 then n.toNat else 0
theorem fr_lt (n : Int) : fr n < 64 := by unfold fr; split <;> omega
theorem next_f (k S : Nat) (n : Int) (hS : S < 18446744073709551616) (hk : 70 < k) :
    (∃ j, j < 64 ∧ bits_Set_Next.f k (S : Int) n = some (((fr n + j) % 64 : Nat) : Int) ∧ Q S (fr n + j) = true ∧ ∀ i, i < j → Q S (fr n + i) = false) ∨
    (bits_Set_Next.f k (S : Int) n = some (-1) ∧ ∀ i, i < 64 → Q S (fr n + i) = false) := by
  obtain ⟨k, rfl⟩ : ∃ m, k = m + 2 := ⟨k - 2, by omega⟩
  have e : bits_Set_Next.f (k + 2) (S : Int) n = bits_Set_Next.l0 k (S : Int) ((fr n : Nat) : Int) 0 := by
    unfold bits_Set_Next.f fr
    by_cases h1 : n < 0
    · rw [if_pos h1, if_neg (by omega)]
      simp only [bits_Set_Next.j0, bits_Set_Next.j1]; rfl
    · rw [if_neg h1]
      by_cases h2 : n ≥ 64
      · rw [if_neg (by omega)]
        simp only [bits_Set_Next.j0, bits_Set_Next.j1, h2, decide_true, if_true]; rfl
      · rw [if_pos (by omega)]
        simp only [bits_Set_Next.j0, bits_Set_Next.j1]
        rw [if_neg (by simpa using h2)]
        congr 1; omega
  rw [e]
  rcases next_l S hS (fr n) (fr_lt n) 64 k 0 (by omega) (by omega) (by omega) with ⟨j', a1, a2, a3, a4, a5⟩ | ⟨a1, a2⟩
  · exact Or.inl ⟨j', a2, a3, a4, fun i h => a5 i (by omega) h⟩
  · exact Or.inr ⟨a1, fun i h => a2 i (by omega) h⟩


theorem tmod_nat (a b : Nat) : Int.tmod (a : Int) (b : Int) = ((a % b : Nat) : Int) := rfl
/-- the row told from behind, turned by r -/
def turned (xs : List Int) (r : Nat) : Nat → List Int
  | 0 => []
  | i + 1 => rd xs (((i + r) % xs.length : Nat) : Int) :: turned xs r i
theorem turned_mem (xs : List Int) (r : Nat) (x : Int) : ∀ n, x ∈ turned xs r n ↔ ∃ i, i < n ∧ x = rd xs (((i + r) % xs.length : Nat) : Int)
  | 0 => by simp [turned]
  | n + 1 => by
    unfold turned
    rw [List.mem_cons, turned_mem xs r x n]
    constructor
    · rintro (h | ⟨i, h1, h2⟩)
      · exact ⟨n, by omega, h⟩
      · exact ⟨i, by omega, h2⟩
    · rintro ⟨i, h1, h2⟩
      by_cases e : i = n
      · subst e; exact Or.inl h2
      · exact Or.inr ⟨i, by omega, h2⟩
theorem turned_length (xs : List Int) (r : Nat) : ∀ n, (turned xs r n).length = n
  | 0 => rfl
  | n + 1 => by unfold turned; rw [List.length_cons, turned_length xs r n]
theorem rd_mem (xs : List Int) (i : Nat) (h : i < xs.length) : rd xs (i : Int) = xs[i] := by unfold rd; simp [h]
theorem turned_same (xs : List Int) (r : Nat) (h0 : xs.length ≠ 0) (x : Int) : x ∈ turned xs r xs.length ↔ x ∈ xs := by
  rw [turned_mem]
  constructor
  · rintro ⟨i, h1, h2⟩
    have := Nat.mod_lt (i + r) (Nat.pos_of_ne_zero h0)
    rw [h2, rd_mem xs _ this]; exact List.getElem_mem _
  · intro h
    obtain ⟨j, hj, rfl⟩ := List.getElem_of_mem h
    refine ⟨(j + (xs.length - r % xs.length)) % xs.length, Nat.mod_lt _ (by omega), ?_⟩
    have hr := Nat.mod_lt r (Nat.pos_of_ne_zero h0)
    have e : ((j + (xs.length - r % xs.length)) % xs.length + r) % xs.length = j := by
      rw [Nat.mod_add_mod, Nat.add_mod, Nat.add_comm]
      have : (r % xs.length + (j + (xs.length - r % xs.length)) % xs.length) % xs.length = (r % xs.length + (j + (xs.length - r % xs.length))) % xs.length := Nat.add_mod_mod _ _ _
      rw [this, show r % xs.length + (j + (xs.length - r % xs.length)) = j + xs.length by omega, Nat.add_mod_right, Nat.mod_eq_of_lt hj]
    rw [e, rd_mem xs j hj]
/-- the same, told so that arithmetic passes it by -/
def Alike (a b : Nat) : Prop := a = b
theorem order_l1 (xs b : List Int) (hx : xs.length ≤ 300) (hb : b.length = xs.length) (hs : Alike (setOf b 0) (setOf xs 0)) : ∀ (d k i T : Nat), T < 18446744073709551616 → Alike (setOf (xs.drop i) T) (setOf xs 0) → i ≤ xs.length → xs.length - i = d → d + 700 < k →
    catafalquelaw06_BitsOrder.l1 k xs true b ((setOf xs 0 : Nat) : Int) (T : Int) (i : Int) = some true := by
  intro d
  induction d with
  | zero =>
    intro k i T hT ht hi hd hk
    obtain ⟨k, rfl⟩ : ∃ m, k = m + 1 := ⟨k - 1, by omega⟩
    have hT' : Alike T (setOf xs 0) := by rw [List.drop_of_length_le (by omega)] at ht; exact ht
    have h2 : Alike (setOf (b ++ xs) 0) (setOf xs 0) := by
      apply Nat.eq_of_testBit_eq; intro j
      have e := congrArg (fun s => Nat.testBit s j) hs
      simp only [setOf_test, Nat.zero_testBit, Bool.false_or] at e
      rw [setOf_test, setOf_test, List.any_append, e, Bool.or_self]
    simp only [catafalquelaw06_BitsOrder.l1]
    rw [if_neg (by omega), of_f k b (by unfold maxLen; omega) (by omega)]
    simp only [Option.bind_some, if_true, List.length_nil, List.nil_append]
    rw [of_f k (b ++ xs) (by rw [List.length_append]; unfold maxLen; omega) (by rw [List.length_append]; omega), show setOf b 0 = setOf xs 0 from hs, show setOf (b ++ xs) 0 = setOf xs 0 from h2, show T = setOf xs 0 from hT']
    simp only [Option.bind_some, if_true]
    rw [if_pos (by omega), if_pos (by omega)]; simp
  | succ d ih =>
    intro k i T hT ht hi hd hk
    obtain ⟨k, rfl⟩ : ∃ m, k = m + 1 := ⟨k - 1, by omega⟩
    have hlt : i < xs.length := by omega
    have hw : wrap64 ((i : Int) + 1) = ((i + 1 : Nat) : Int) := by unfold wrap64; omega
    simp only [catafalquelaw06_BitsOrder.l1]
    rw [if_pos (by omega), if_pos (by omega), with_f T _ hT, hw]
    simp only [Option.bind_some]
    refine ih k (i + 1) _ (or_lt _ _ hT (bitN_lt _)) ?_ (by omega) (by omega) (by omega)
    rw [List.drop_eq_getElem_cons hlt] at ht
    rw [rd_mem xs i hlt]; exact ht
theorem order_l0 (xs : List Int) (r : Nat) (hx : xs.length ≤ 300) (h0 : xs.length ≠ 0) (hr : r < 300) : ∀ (i k : Nat) (b : List Int), i ≤ xs.length → b ++ turned xs r i = turned xs r xs.length → i + 2000 < k →
    catafalquelaw06_BitsOrder.l0 k xs true (r : Int) b ((i : Int) - 1) = some true := by
  intro i
  induction i with
  | zero =>
    intro k b hi hb hk
    obtain ⟨k, rfl⟩ : ∃ m, k = m + 1 := ⟨k - 1, by omega⟩
    have hb' : b = turned xs r xs.length := by rw [← hb]; simp [turned]
    have hl : b.length = xs.length := by rw [hb', turned_length]
    simp only [catafalquelaw06_BitsOrder.l0]
    rw [if_neg (by omega), of_f k xs (by unfold maxLen; omega) (by omega), of_f k [] (by unfold maxLen; simp) (by simp; omega)]
    simp only [Option.bind_some]
    exact order_l1 xs b hx hl (setOf_same _ _ (fun x => by rw [hb']; exact turned_same xs r h0 x)) xs.length k 0 0 (by omega) (show setOf (xs.drop 0) 0 = setOf xs 0 by simp) (by omega) (by omega) (by omega)
  | succ i ih =>
    intro k b hi hb hk
    obtain ⟨k, rfl⟩ : ∃ m, k = m + 1 := ⟨k - 1, by omega⟩
    have hl : b.length ≤ xs.length := by have := congrArg List.length hb; rw [List.length_append, turned_length, turned_length] at this; omega
    have hm := Nat.mod_lt (i + r) (Nat.pos_of_ne_zero h0)
    have q1 : (i : Int) ≥ 0 := by omega
    have q2 : ¬ (xs.length : Int) = 0 := by omega
    have q3 : (0 : Int) ≤ (((i + r) % xs.length : Nat) : Int) := by omega
    have q4 : (((i + r) % xs.length : Nat) : Int) < (xs.length : Int) := by omega
    have q5 : b.length < 17592186044416 := by omega
    have q6 : i ≤ xs.length := by omega
    have q7 : i + 2000 < k := by omega
    have e3 : wrap64 ((i : Int) - 1) = (i : Int) - 1 := by unfold wrap64; omega
    have e1 : ((i + 1 : Nat) : Int) - 1 = (i : Int) := by omega
    have e2 : Int.tmod (wrap64 ((i : Int) + (r : Int))) (xs.length : Int) = (((i + r) % xs.length : Nat) : Int) := by
      have : wrap64 ((i : Int) + (r : Int)) = ((i + r : Nat) : Int) := by unfold wrap64; omega
      rw [this]; rfl
    simp only [catafalquelaw06_BitsOrder.l0]
    rw [e1, e2, e3, if_pos q1, if_neg q2, if_pos q3, if_pos q4, if_pos q5]
    refine ih k _ q6 ?_ q7
    rw [← hb, List.append_assoc]; rfl
theorem BitsOrder : catafalquelaw06_BitsOrder.Pure := by
  intro xs by_ _ _ _ hy
  have hby : 0 ≤ by_ ∧ by_ ≤ 255 := by
    simp only [Lit.wf, Bool.and_eq_true, decide_eq_true_eq] at hy
    have e1 : IntKind.u8.min = 0 := by decide
    have e2 : IntKind.u8.max = 255 := by decide
    rw [e1, e2] at hy; exact hy
  refine ⟨3001, ?_⟩
  unfold catafalquelaw06_BitsOrder.f
  rw [shown_f 3001 (by omega)]
  simp only [Option.bind_some]
  by_cases h1 : (xs.length : Int) > 300
  · rw [if_pos h1]; simp [catafalquelaw06_BitsOrder.j0]
  · rw [if_neg h1]
    simp only [catafalquelaw06_BitsOrder.j0]
    by_cases h2 : xs.length = 0
    · rw [if_pos (by simp [h2])]
    · have e1 : wrap64 by_ = ((by_.toNat : Nat) : Int) := by unfold wrap64; omega
      have e2 : wrap64 ((xs.length : Int) - 1) = (xs.length : Int) - 1 := by unfold wrap64; omega
      rw [if_neg (by simp; exact fun h => h2 (by simp [h])), if_neg (by omega), e1, e2, tmod_nat]
      have hm := Nat.mod_lt by_.toNat (Nat.pos_of_ne_zero h2)
      exact order_l0 xs _ (by omega) h2 (by omega) xs.length 3000 [] (Nat.le_refl _) (by simp) (by omega)

end Go.Proofs.Ytblmhjfjkabocaa.Pure
