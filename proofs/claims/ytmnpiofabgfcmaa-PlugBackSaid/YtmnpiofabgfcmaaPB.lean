/- Walks over the program's functions, on values without memory, and what they come to. No condition. -/
import Derived.Test.YtmnpiofabgfcmaaTw18
set_option linter.unusedVariables false
set_option linter.unusedSimpArgs false
namespace Go.Proofs.YtmnpiofabgfcmaaT.BC
def pc : Nat → Nat → Nat
 | 0, _ => 0
 | n + 1, s => s % 2 + pc n (s / 2)
theorem pc_le : ∀ n s, pc n s ≤ n
 | 0, _ => Nat.le_refl _
 | n + 1, s => by have := pc_le n (s / 2); unfold pc; omega
theorem pc_zero : ∀ n, pc n 0 = 0
 | 0 => rfl
 | n + 1 => by unfold pc; simp [pc_zero n]
theorem and_mod (a b : Nat) : (a &&& b) % 2 = (a % 2) * (b % 2) := by
 have h := Nat.testBit_and a b 0
 simp only [Nat.testBit_zero] at h
 have ha := Nat.mod_two_eq_zero_or_one a
 have hb := Nat.mod_two_eq_zero_or_one b
 have hc := Nat.mod_two_eq_zero_or_one (a &&& b)
 rcases ha with ha | ha <;> rcases hb with hb | hb <;> rcases hc with hc | hc <;> simp_all
theorem or_mod1 (a b : Nat) : (a ||| b) % 2 = if a % 2 = 1 then 1 else b % 2 := by
 have h := Nat.testBit_or a b 0
 simp only [Nat.testBit_zero] at h
 have hd := Nat.mod_two_eq_zero_or_one (a ||| b)
 have ha := Nat.mod_two_eq_zero_or_one a
 have hb := Nat.mod_two_eq_zero_or_one b
 rcases ha with ha | ha <;> rcases hb with hb | hb <;> rcases hd with hd | hd <;> rw [ha, hb, hd] at h <;> simp_all
theorem or_mod (a b : Nat) : (a ||| b) % 2 + (a &&& b) % 2 = a % 2 + b % 2 := by
 rw [or_mod1, and_mod]
 have ha := Nat.mod_two_eq_zero_or_one a
 have hb := Nat.mod_two_eq_zero_or_one b
 rcases ha with ha | ha <;> rcases hb with hb | hb <;> rw [ha, hb] <;> rfl
theorem and_div (a b : Nat) : (a &&& b) / 2 = a / 2 &&& b / 2 := by
 apply Nat.eq_of_testBit_eq; intro i
 simp only [Nat.testBit_and, Nat.testBit_div_two]
theorem or_div (a b : Nat) : (a ||| b) / 2 = a / 2 ||| b / 2 := by
 apply Nat.eq_of_testBit_eq; intro i
 simp only [Nat.testBit_or, Nat.testBit_div_two]
theorem pc_join : ∀ n a b, pc n (a ||| b) + pc n (a &&& b) = pc n a + pc n b
 | 0, _, _ => rfl
 | n + 1, a, b => by
  have := pc_join n (a / 2) (b / 2)
  have h := or_mod a b
  unfold pc
  rw [and_div, or_div]
  omega
theorem pc_less : ∀ n s, s ≠ 0 → s < 2 ^ n → pc n (s &&& (s - 1)) + 1 = pc n s
 | 0, s, h0, h => by simp at h; omega
 | n + 1, s, h0, h => by
  unfold pc
  rw [and_div, and_mod]
  rcases Nat.mod_two_eq_zero_or_one s with hs | hs
  ·have h1 : (s - 1) / 2 = s / 2 - 1 := by omega
   have := pc_less n (s / 2) (by omega) (by rw [Nat.pow_succ] at h; omega)
   rw [h1, hs]; omega
  ·have h1 : (s - 1) / 2 = s / 2 := by omega
   have h2 : (s - 1) % 2 = 0 := by omega
   rw [h1, hs, h2, Nat.and_self]; omega
theorem and_lt (s n : Nat) (h : s < 2 ^ n) (t : Nat) : s &&& t < 2 ^ n := Nat.lt_of_le_of_lt Nat.and_le_left h
def mem (n s : Nat) : List Nat := (List.range n).filter s.testBit
theorem mem_length : ∀ n s, (mem n s).length = pc n s
 | 0, _ => rfl
 | n + 1, s => by
  unfold mem pc
  rw [List.range_succ_eq_map, List.filter_cons, List.filter_map, ← mem_length n (s / 2)]
  unfold mem
  have : (Nat.testBit s ∘ Nat.succ) = (s / 2).testBit := by funext i; simp [Nat.testBit_succ]
  rw [this]
  simp only [Nat.testBit_zero]
  rcases Nat.mod_two_eq_zero_or_one s with hs | hs <;> simp [hs] <;> omega
theorem ite_lt {a b : Nat} {c : Prop} [Decidable c] {m : Nat} (h : a < m) (k : b < m) : (if c then a else b) < m := by split <;> assumption
def bitN (n : Int) : Nat := if 0 ≤ n ∧ n < 64 then 2 ^ n.toNat else 0
theorem bitN_lt (n : Int) : bitN n < 18446744073709551616 := by
 unfold bitN; split
 ·exact (Nat.pow_lt_pow_iff_right (a := 2) (m := 64) (by decide)).2 (by omega)
 ·omega
theorem bitN_test (n : Int) (i : Nat) : (bitN n).testBit i = decide (0 ≤ n ∧ n < 64 ∧ n = i) := by
 unfold bitN
 split
 ·rename_i h
  rw [Nat.testBit_two_pow]
  by_cases e : n = i
  ·subst e; simp; omega
  ·have : ¬ n.toNat = i := by omega
   simp [this, e]
 ·rename_i h
  have : ¬ (0 ≤ n ∧ n < 64 ∧ n = i) := by omega
  simp [this]
theorem high (s i : Nat) (h : s < 18446744073709551616) (hi : 64 ≤ i) : s.testBit i = false :=
 Nat.testBit_lt_two_pow (Nat.lt_of_lt_of_le h (Nat.pow_le_pow_right (n := 2) (by decide) hi : 2 ^ 64 ≤ 2 ^ i))
def has (s : Nat) (n : Int) : Bool := decide (0 ≤ n ∧ n < 64) && s.testBit n.toNat
theorem has_eq (s : Nat) (n : Int) : decide (s &&& bitN n ≠ 0) = has s n := by
 unfold has
 by_cases h : 0 ≤ n ∧ n < 64
 ·simp only [h, and_self, decide_true, Bool.true_and]
  by_cases hb : s.testBit n.toNat = true
  ·rw [hb]; simp only [ne_eq, decide_eq_true_eq]
   intro e
   have := Nat.testBit_and s (bitN n) n.toNat
   rw [e, hb, bitN_test] at this
   simp at this; omega
  ·have hb' : s.testBit n.toNat = false := by simpa using hb
   rw [hb']; simp only [ne_eq, decide_eq_false_iff_not, Classical.not_not]
   apply Nat.eq_of_testBit_eq; intro i
   rw [Nat.testBit_and, bitN_test]
   by_cases e : n = i
   ·have : i = n.toNat := by omega
    rw [this, hb']; simp
   ·simp [e]
 ·have : bitN n = 0 := by unfold bitN; rw [if_neg h]
  rw [this]; simp [h]
def wo (s : Nat) (n : Int) : Nat := s &&& (18446744073709551615 - bitN n)
theorem wo_test (s : Nat) (n : Int) (i : Nat) (hs : s < 18446744073709551616) : (wo s n).testBit i = (s.testBit i && !(bitN n).testBit i) := by
 unfold wo
 rw [Nat.testBit_and]
 have h := Nat.testBit_two_pow_sub_succ (n := 64) (x := bitN n) (bitN_lt n) i
 have e : (2 ^ 64 - (bitN n + 1)) = 18446744073709551615 - bitN n := by have := bitN_lt n; omega
 rw [e] at h
 rw [h]
 by_cases hi : i < 64
 ·simp [hi]
 ·rw [high s i hs (by omega)]; simp
theorem wo_lt (s : Nat) (n : Int) (hs : s < 18446744073709551616) : wo s n < 18446744073709551616 := Nat.lt_of_le_of_lt Nat.and_le_left hs
theorem or_lt (s t : Nat) (hs : s < 18446744073709551616) (ht : t < 18446744073709551616) : s ||| t < 18446744073709551616 := Nat.or_lt_two_pow (n := 64) hs ht
def setOf (l : List Int) (s : Nat) : Nat := l.foldl (fun a n => a ||| bitN n) s
theorem setOf_lt : ∀ (l : List Int) (s : Nat), s < 18446744073709551616 → setOf l s < 18446744073709551616
 | [], _, h => h
 | x :: l, _, h => setOf_lt l _ (or_lt _ _ h (bitN_lt x))
theorem setOf_test : ∀ (l : List Int) (s i : Nat), (setOf l s).testBit i = (s.testBit i || l.any fun n => (bitN n).testBit i)
 | [], s, i => by simp [setOf]
 | x :: l, s, i => by
  have := setOf_test l (s ||| bitN x) i
  unfold setOf at this ⊢
  rw [List.foldl_cons, this, Nat.testBit_or, List.any_cons, Bool.or_assoc]
theorem setOf_same (l m : List Int) (h : ∀ x, x ∈ l ↔ x ∈ m) : setOf l 0 = setOf m 0 := by
 apply Nat.eq_of_testBit_eq; intro i
 rw [setOf_test, setOf_test, Bool.eq_iff_iff]
 simp only [Nat.zero_testBit, Bool.false_or, List.any_eq_true]
 constructor
 ·rintro ⟨x, hx, hb⟩; exact ⟨x, (h x).1 hx, hb⟩
 ·rintro ⟨x, hx, hb⟩; exact ⟨x, (h x).2 hx, hb⟩
def all (s : Nat) : List Int := (mem 64 s).map Int.ofNat
theorem all_length (s : Nat) : (all s).length = pc 64 s := by unfold all; rw [List.length_map, mem_length]
theorem mem_all (s : Nat) (x : Int) : x ∈ all s ↔ has s x = true := by
 unfold all mem has
 simp only [List.mem_map, List.mem_filter, List.mem_range, Bool.and_eq_true, decide_eq_true_eq]
 constructor
 ·rintro ⟨a, ⟨h1, h2⟩, rfl⟩; exact ⟨⟨Int.natCast_nonneg a, by simp only [Int.ofNat_eq_natCast]; omega⟩, by simpa using h2⟩
 ·rintro ⟨⟨h1, h2⟩, h3⟩; exact ⟨x.toNat, ⟨by omega, h3⟩, by simp only [Int.ofNat_eq_natCast]; omega⟩
theorem setOf_all (s : Nat) (hs : s < 18446744073709551616) : setOf (all s) 0 = s := by
 apply Nat.eq_of_testBit_eq; intro i
 rw [setOf_test, Nat.zero_testBit, Bool.false_or, Bool.eq_iff_iff, List.any_eq_true]
 constructor
 ·rintro ⟨x, hx, hb⟩
  rw [mem_all] at hx
  rw [bitN_test] at hb
  unfold has at hx
  simp only [Bool.and_eq_true, decide_eq_true_eq] at hx hb
  have : i = x.toNat := by omega
  rw [this]; exact hx.2
 ·intro h
  have hi : i < 64 := by
   by_cases hi : i < 64
   ·exact hi
   ·rw [high s i hs (by omega)] at h; simp at h
  refine ⟨(i : Int), ?_, ?_⟩
  ·rw [mem_all]; unfold has; simp; exact ⟨by omega, h⟩
  ·rw [bitN_test]; simp; omega
theorem ext64 (s t : Nat) (hs : s < 18446744073709551616) (ht : t < 18446744073709551616) (h : ∀ i, i < 64 → s.testBit i = t.testBit i) : s = t := by
 apply Nat.eq_of_testBit_eq; intro i
 by_cases hi : i < 64
 ·exact h i hi
 ·rw [high s i hs (by omega), high t i ht (by omega)]
def cnt (P : Nat → Bool) : Nat → Nat
 | 0 => 0
 | n + 1 => cnt P n + if P n = true then 1 else 0
theorem cnt_filter (P : Nat → Bool) : ∀ n, cnt P n = ((List.range n).filter P).length
 | 0 => rfl
 | n + 1 => by
  unfold cnt
  rw [cnt_filter P n, List.range_succ, List.filter_append, List.length_append]
  by_cases h : P n = true <;> simp [h]
theorem cnt_congr (P Q : Nat → Bool) : ∀ n, (∀ i, i < n → P i = Q i) → cnt P n = cnt Q n
 | 0, _ => rfl
 | n + 1, h => by
  unfold cnt
  rw [cnt_congr P Q n (fun i hi => h i (by omega)), h n (by omega)]
def Q (s i : Nat) : Bool := s.testBit (i % 64)
theorem cnt_round64 (s : Nat) : ∀ n, cnt (Q s) (n + 64) = cnt (Q s) n + pc 64 s
 | 0 => by
  have h : cnt (Q s) 64 = cnt s.testBit 64 := cnt_congr _ _ _ fun i hi => by unfold Q; rw [Nat.mod_eq_of_lt hi]
  rw [Nat.zero_add, h, cnt_filter, ← mem_length]; show _ = 0 + (mem 64 s).length; rw [Nat.zero_add]; rfl
 | n + 1 => by
  have h := cnt_round64 s n
  have e : Q s (n + 64) = Q s n := by unfold Q; rw [Nat.add_mod_right]
  rw [show n + 1 + 64 = (n + 64) + 1 by omega]
  unfold cnt
  rw [h, e]; omega
theorem cnt_round {m : Nat} (hm : m = 64) (s n : Nat) : cnt (Q s) (n + m) = cnt (Q s) n + pc m s := by subst hm; exact cnt_round64 s n
theorem cnt_none (P : Nat → Bool) (a : Nat) : ∀ d, (∀ i, a ≤ i → i < a + d → P i = false) → cnt P (a + d) = cnt P a
 | 0, _ => rfl
 | d + 1, h => by
  rw [show a + (d + 1) = (a + d) + 1 by omega]
  show cnt P (a + d) + _ = _
  rw [cnt_none P a d (fun i h1 h2 => h i h1 (by omega)), h (a + d) (by omega) (by omega)]; simp
theorem cnt_mono (P : Nat → Bool) (a : Nat) : ∀ d, cnt P a ≤ cnt P (a + d)
 | 0 => Nat.le_refl _
 | d + 1 => by
  have := cnt_mono P a d
  rw [show a + (d + 1) = (a + d) + 1 by omega]
  show _ ≤ cnt P (a + d) + _
  omega
end Go.Proofs.YtmnpiofabgfcmaaT.BC
