/- Gone round from member to member, each one is told once until the first one comes again. No condition: every input. -/
import Derived.Test.YtblmhjfjkabocaaPBitsNextx2
import Derived.Test.YtblmhjfjkabocaaBits
import Derived.Laws.BitsAllLaws
namespace Go.Proofs.Ytblmhjfjkabocaa.Pure
open Go.RowKit Go.Proofs.Ytblmhjfjkabocaa.PBitsNext Go.Proofs.YtblmhjfjkabocaaW.PrintWords Go.Proofs.YtblmhjfjkabocaaW.PrintLast Go.Proofs.YtblmhjfjkabocaaW.PrintMore Go.Proofs.Ytblmhjfjkabocaa.BC
theorem u64_nat (x : Int) (h : (Lit.int .u64 x).wf = true) : ∃ S : Nat, x = (S : Int) ∧ S < 18446744073709551616 := by
  have h2 : 0 ≤ x ∧ x < 18446744073709551616 := by
    simp only [Lit.wf, Bool.and_eq_true, decide_eq_true_eq] at h
    have e1 : IntKind.u64.min = 0 := by decide
    have e2 : IntKind.u64.max = 18446744073709551615 := by decide
    rw [e1, e2] at h; omega
  exact ⟨x.toNat, by omega, by omega⟩
theorem bit_f (n : Int) : bits_bit.f n = some ((bitN n : Nat) : Int) := by
  unfold bits_bit.f bitN
  by_cases h1 : n < 0
  · rw [if_pos h1, if_neg (by omega)]; rfl
  · rw [if_neg h1]
    by_cases h2 : n ≥ 64
    · rw [if_pos h2, if_neg (by omega)]; rfl
    · rw [if_neg h2, if_pos (by omega), if_pos (by omega)]
      have hl : 2 ^ n.toNat < 2 ^ 64 := (Nat.pow_lt_pow_iff_right (a := 2) (by decide)).2 (by omega)
      unfold shl
      rw [show min n.toNat IntKind.u64.bits = n.toNat from Nat.min_eq_left (by show n.toNat ≤ 64; omega), IntKind.wrap_u64, Int.one_mul]
      rw [show ((2 : Int) ^ n.toNat) = ((2 ^ n.toNat : Nat) : Int) by simp]
      congr 1
      exact Int.emod_eq_of_lt (Int.natCast_nonneg _) (by omega)

theorem has_f (S : Nat) (n : Int) (hS : S < 18446744073709551616) : bits_Set_Has.f (S : Int) n = some (has S n) := by
  unfold bits_Set_Has.f
  rw [bit_f]
  simp only [Option.bind_some]
  rw [u64_and_nat S (bitN n) hS (bitN_lt n), ← has_eq]
  by_cases h : S &&& bitN n = 0
  · rw [h]; simp
  · simp [h]


theorem of_l (xs : List Int) (hx : xs.length ≤ maxLen) : ∀ (d k i S : Nat), S < 18446744073709551616 → i ≤ xs.length → xs.length - i = d → d < k →
    bits_Of.l0 k (S : Int) xs (xs.length : Int) (i : Int) = some ((setOf (xs.drop i) S : Nat) : Int) := by
  intro d
  induction d with
  | zero =>
    intro k i S hS hi hd hk
    obtain ⟨k, rfl⟩ : ∃ m, k = m + 1 := ⟨k - 1, by omega⟩
    simp only [bits_Of.l0]
    rw [if_neg (by omega), List.drop_of_length_le (by omega)]; rfl
  | succ d ih =>
    intro k i S hS hi hd hk
    obtain ⟨k, rfl⟩ : ∃ m, k = m + 1 := ⟨k - 1, by omega⟩
    simp only [bits_Of.l0]
    have hlt : i < xs.length := by omega
    have hr : rd xs (i : Int) = xs[i] := by unfold rd; simp [hlt]
    have hw : wrap64 ((i : Int) + 1) = ((i + 1 : Nat) : Int) := by unfold maxLen at hx; unfold wrap64; omega
    rw [if_pos (by omega), if_pos (by omega), if_pos (by omega), bit_f]
    simp only [Option.bind_some]
    rw [u64_or_nat S _ hS (bitN_lt _), hw, ih k (i + 1) _ (or_lt _ _ hS (bitN_lt _)) (by omega) (by omega) (by omega), hr, List.drop_eq_getElem_cons hlt]; rfl
theorem of_f (k : Nat) (xs : List Int) (hx : xs.length ≤ maxLen) (hk : xs.length < k) : bits_Of.f k xs = some ((setOf xs 0 : Nat) : Int) := by
  have h := of_l xs hx xs.length k 0 0 (by omega) (by omega) (by omega) hk
  unfold bits_Of.f
  simpa using h

theorem all_l (S : Nat) (hS : S < 18446744073709551616) : ∀ (d k i : Nat), i ≤ 64 → 64 - i = d → d < k →
    bits_Set_All.l0 k (S : Int) ((mem i S).map Int.ofNat) (i : Int) = some (all S) := by
  intro d
  induction d with
  | zero =>
    intro k i hi hd hk
    obtain ⟨k, rfl⟩ : ∃ m, k = m + 1 := ⟨k - 1, by omega⟩
    obtain rfl : i = 64 := by omega
    simp only [bits_Set_All.l0]
    rw [if_neg (by omega)]; rfl
  | succ d ih =>
    intro k i hi hd hk
    obtain ⟨k, rfl⟩ : ∃ m, k = m + 1 := ⟨k - 1, by omega⟩
    have hw : wrap64 ((i : Int) + 1) = ((i + 1 : Nat) : Int) := by unfold wrap64; omega
    have hl : ((mem i S).map Int.ofNat).length < 17592186044416 := by rw [List.length_map, mem_length]; have := pc_le i S; omega
    have ih' := ih k (i + 1) (by omega) (by omega) (by omega)
    have hm : mem (i + 1) S = mem i S ++ if S.testBit i = true then [i] else [] := by
      unfold mem; rw [List.range_succ, List.filter_append]; by_cases h : S.testBit i = true <;> simp [h]
    simp only [bits_Set_All.l0]
    rw [if_pos (by omega), has_f S _ hS]
    simp only [Option.bind_some]
    have hb : has S (i : Int) = S.testBit i := by unfold has; simp; omega
    rw [hb, hw]
    by_cases h : S.testBit i = true
    · rw [if_pos h, if_pos hl]
      rw [hm, if_pos h, List.map_append] at ih'
      exact ih'
    · rw [if_neg h]
      rw [hm, if_neg h, List.append_nil] at ih'
      exact ih'
theorem all_f (k S : Nat) (hS : S < 18446744073709551616) (hk : 64 < k) : bits_Set_All.f k (S : Int) = some (all S) := by
  unfold bits_Set_All.f
  exact all_l S hS 64 k 0 (by omega) (by omega) hk

theorem count_l {m : Nat} (hm : m = 64) : ∀ (d k S : Nat) (c : Int), S < 18446744073709551616 → 0 ≤ c → c + pc m S ≤ 64 → pc m S = d → d < k →
    bits_Set_Count.l0 k (S : Int) c = some (c + pc m S) := by
  intro d
  induction d with
  | zero =>
    intro k S c hS h0 hc hd hk
    obtain ⟨k, rfl⟩ : ∃ m, k = m + 1 := ⟨k - 1, by omega⟩
    simp only [bits_Set_Count.l0]
    have : S = 0 := by
      by_cases e : S = 0
      · exact e
      · have := pc_less m S e (by rw [hm]; exact hS); omega
    rw [if_pos (by omega), hd]; simp
  | succ d ih =>
    intro k S c hS h0 hc hd hk
    obtain ⟨k, rfl⟩ : ∃ m, k = m + 1 := ⟨k - 1, by omega⟩
    have e : S ≠ 0 := by intro e; subst e; rw [pc_zero] at hd; omega
    have hl := pc_less m S e (by rw [hm]; exact hS)
    have hw : wrap64 (c + 1) = c + 1 := by unfold wrap64; omega
    have hs : IntKind.u64.wrap ((S : Int) - 1) = ((S - 1 : Nat) : Int) := by rw [IntKind.wrap_u64]; omega
    have hi := ih k (S &&& (S - 1)) (c + 1) (and_lt S 64 hS _) (by omega) (by omega) (by omega) (by omega)
    simp only [bits_Set_Count.l0]
    rw [if_neg (by omega), hs, u64_and_nat S (S - 1) hS (by omega), hw, hi]
    congr 1; omega
theorem count_f {m : Nat} (hm : m = 64) (k S : Nat) (hS : S < 18446744073709551616) (hk : 64 < k) : bits_Set_Count.f k (S : Int) = some ((pc m S : Nat) : Int) := by
  unfold bits_Set_Count.f
  have := pc_le m S
  rw [count_l hm (pc m S) k S 0 hS (by omega) (by omega) rfl (by omega)]; simp

theorem shown_f (k : Nat) (hk : 100 ≤ k) : catafalquelaw06_shown.f k = some true :=
  at_rounds catafalquelaw06_shown.mono hk (by decide +kernel)


/-- the first member from f + j on, f + 64 at the latest; else -1 -/
theorem next_l (S : Nat) (hS : S < 18446744073709551616) (f : Nat) (hf : f < 64) : ∀ (d k j : Nat), j ≤ 64 → 64 - j = d → d < k →
    (∃ j', j ≤ j' ∧ j' < 64 ∧ bits_Set_Next.l0 k (S : Int) (f : Int) (j : Int) = some (((f + j') % 64 : Nat) : Int) ∧ Q S (f + j') = true ∧ ∀ i, j ≤ i → i < j' → Q S (f + i) = false) ∨
    (bits_Set_Next.l0 k (S : Int) (f : Int) (j : Int) = some (-1) ∧ ∀ i, j ≤ i → i < 64 → Q S (f + i) = false) := by
  intro d
  induction d with
  | zero =>
    intro k j hj hd hk
    obtain ⟨k, rfl⟩ : ∃ m, k = m + 1 := ⟨k - 1, by omega⟩
    refine Or.inr ⟨?_, fun i h1 h2 => by omega⟩
    simp only [bits_Set_Next.l0]
    rw [if_neg (by omega)]
  | succ d ih =>
    intro k j hj hd hk
    obtain ⟨k, rfl⟩ : ∃ m, k = m + 1 := ⟨k - 1, by omega⟩
    have hh : has S (((f + j) % 64 : Nat) : Int) = Q S (f + j) := by
      unfold has Q; rw [decide_eq_true (by omega), Int.toNat_natCast, Bool.true_and]
    have hw : wrap64 ((j : Int) + 1) = ((j + 1 : Nat) : Int) := by unfold wrap64; omega
    have hw2 : Int.tmod (wrap64 ((f : Int) + (j : Int))) 64 = (((f + j) % 64 : Nat) : Int) := by
      have : wrap64 ((f : Int) + (j : Int)) = ((f + j : Nat) : Int) := by unfold wrap64; omega
      rw [this]; rfl
    simp only [bits_Set_Next.l0]
    rw [if_pos (by omega), hw2, has_f S _ hS]
    simp only [Option.bind_some]
    rw [hh, hw]
    by_cases h : Q S (f + j) = true
    · refine Or.inl ⟨j, Nat.le_refl _, by omega, ?_, h, fun i h1 h2 => by omega⟩
      rw [if_pos h]
    · rw [if_neg h]
      have h' : Q S (f + j) = false := by simpa using h
      rcases ih k (j + 1) (by omega) (by omega) (by omega) with ⟨j', a1, a2, a3, a4, a5⟩ | ⟨a1, a2⟩
      · refine Or.inl ⟨j', by omega, a2, a3, a4, fun i h1 h2 => ?_⟩
        by_cases e : i = j
        · rw [e]; exact h'
        · exact a5 i (by omega) h2
      · refine Or.inr ⟨a1, fun i h1 h2 => ?_⟩
        by_cases e : i = j
        · rw [e]; exact h'
        · exact a2 i (by omega) h2
/-- where a search begins -/
def fr (n : Int) : Nat := if 0 ≤ n ∧ n < 64 then n.toNat else 0
theorem fr_lt (n : Int) : fr n < 64 := by unfold fr; split <;> omega
theorem next_f (k S : Nat) (n : Int) (hS : S < 18446744073709551616) (hk : 70 < k) :
    (∃ j, j < 64 ∧ bits_Set_Next.f k (S : Int) n = some (((fr n + j) % 64 : Nat) : Int) ∧ Q S (fr n + j) = true ∧ ∀ i, i < j → Q S (fr n + i) = false) ∨
    (bits_Set_Next.f k (S : Int) n = some (-1) ∧ ∀ i, i < 64 → Q S (fr n + i) = false) := by
  obtain ⟨k, rfl⟩ : ∃ m, k = m + 2 := ⟨k - 2, by omega⟩
  have e : bits_Set_Next.f (k + 2) (S : Int) n = bits_Set_Next.l0 k (S : Int) ((fr n : Nat) : Int) 0 := by
    unfold bits_Set_Next.f fr
    by_cases h1 : n < 0
    · rw [if_pos h1, if_neg (by omega)]
      simp only [bits_Set_Next.j0, bits_Set_Next.j1]; rfl
    · rw [if_neg h1]
      by_cases h2 : n ≥ 64
      · rw [if_neg (by omega)]
        simp only [bits_Set_Next.j0, bits_Set_Next.j1, h2, decide_true, if_true]; rfl
      · rw [if_pos (by omega)]
        simp only [bits_Set_Next.j0, bits_Set_Next.j1]
        rw [if_neg (by simpa using h2)]
        congr 1; omega
  rw [e]
  rcases next_l S hS (fr n) (fr_lt n) 64 k 0 (by omega) (by omega) (by omega) with ⟨j', a1, a2, a3, a4, a5⟩ | ⟨a1, a2⟩
  · exact Or.inl ⟨j', a2, a3, a4, fun i h => a5 i (by omega) h⟩
  · exact Or.inr ⟨a1, fun i h => a2 i (by omega) h⟩


/-- from a member on, round and round: i members on, at a + 64 at the latest -/
theorem next_round {m : Nat} (hm : m = 64) (S : Nat) (hS : S < 18446744073709551616) (n : Nat) (hn : Q S n = true) : ∀ (d k a i : Nat), n ≤ a → a ≤ n + m → Q S a = true → cnt (Q S) a = cnt (Q S) n + i → i ≤ pc m S → pc m S - i = d → d + 100 < k →
    catafalquelaw06_BitsNext.l0 k true (S : Int) ((n % 64 : Nat) : Int) ((a % 64 : Nat) : Int) (i : Int) = some true := by
  have hr := cnt_round hm S n
  have hm1 : ∀ a, n ≤ a → a < n + m → Q S a = true → cnt (Q S) a < cnt (Q S) n + pc m S := by
    intro a h1 h2 h3
    have h4 := cnt_mono (Q S) (a + 1) (n + m - (a + 1))
    rw [show a + 1 + (n + m - (a + 1)) = n + m by omega, hr] at h4
    have h5 : cnt (Q S) (a + 1) = cnt (Q S) a + 1 := by show cnt (Q S) a + _ = _; rw [if_pos h3]
    omega
  have hl := pc_le m S
  have hper : ∀ a, Q S (a + m) = Q S a := fun a => by unfold Q; rw [hm, Nat.add_mod_right]
  intro d
  induction d with
  | zero =>
    intro k a i h1 h2 h3 h4 h5 h6 hk
    obtain ⟨k, rfl⟩ : ∃ m, k = m + 1 := ⟨k - 1, by omega⟩
    have ha : a = n + m := by
      by_cases e : a < n + m
      · have := hm1 a h1 (by omega) h3; omega
      · omega
    simp only [catafalquelaw06_BitsNext.l0]
    rw [count_f hm k S hS (by omega)]
    simp only [Option.bind_some, if_true]
    rw [if_neg (by omega)]
    have e : a % 64 = n % 64 := by rw [ha, hm, Nat.add_mod_right]
    rw [e]; simp
  | succ d ih =>
    intro k a i h1 h2 h3 h4 h5 h6 hk
    obtain ⟨k, rfl⟩ : ∃ m, k = m + 1 := ⟨k - 1, by omega⟩
    have ha : a < n + m := by
      by_cases e : a < n + m
      · exact e
      · have : a = n + m := by omega
        rw [this, hr] at h4; omega
    have hh : has S ((a % 64 : Nat) : Int) = true := by
      unfold has; rw [decide_eq_true (by omega), Int.toNat_natCast, Bool.true_and]; exact h3
    have hfr : fr (((a + 1) % 64 : Nat) : Int) = (a + 1) % 64 := by unfold fr; rw [if_pos (by omega), Int.toNat_natCast]
    have hq : ∀ j, Q S ((a + 1) % 64 + j) = Q S (a + 1 + j) := fun j => by unfold Q; rw [Nat.mod_add_mod]
    have hne : i > 0 → ¬ a % 64 = n % 64 := by
      intro hi e
      have : a = n := by rw [hm] at ha; clear hr hm1 hper hn h3 hh hq ih hfr; omega
      rw [this] at h4; omega
    have go : ∃ j, bits_Set_Next.f k (S : Int) (((a + 1) % 64 : Nat) : Int) = some (((a + 1 + j) % 64 : Nat) : Int) ∧ a + 1 + j ≤ n + m ∧ Q S (a + 1 + j) = true ∧ cnt (Q S) (a + 1 + j) = cnt (Q S) n + (i + 1) := by
      have hend : Q S (a + 1 + (n + m - (a + 1))) = true := by rw [show a + 1 + (n + m - (a + 1)) = n + m by omega, hper]; exact hn
      rcases next_f k S (((a + 1) % 64 : Nat) : Int) hS (by omega) with ⟨j, b1, b2, b3, b4⟩ | ⟨b1, b2⟩
      · rw [hfr] at b2 b3 b4
        rw [hq] at b3
        refine ⟨j, ?_, ?_, b3, ?_⟩
        · rw [b2, Nat.mod_add_mod]
        · by_cases e : n + m - (a + 1) < j
          · have := b4 _ e; rw [hq, hend] at this; simp at this
          · omega
        · have c1 := cnt_none (Q S) (a + 1) j (fun x y z => by have := b4 (x - (a + 1)) (by omega); rw [hq, show a + 1 + (x - (a + 1)) = x by omega] at this; exact this)
          have c2 : cnt (Q S) (a + 1) = cnt (Q S) a + 1 := by show cnt (Q S) a + _ = _; rw [if_pos h3]
          omega
      · rw [hfr] at b2
        have := b2 (n + m - (a + 1)) (by omega); rw [hq, hend] at this; simp at this
    obtain ⟨j, g1, g2, g3, g4⟩ := go
    have hi := ih k (a + 1 + j) (i + 1) (by omega) g2 g3 g4 (by omega) (by omega) (by omega)
    have hip : (i : Int) < ((pc m S : Nat) : Int) := by omega
    have hk64 : 64 < k := by omega
    have hne2 : i > 0 → ¬ ((a % 64 : Nat) : Int) = ((n % 64 : Nat) : Int) := fun x y => hne x (by omega)
    have hw : wrap64 ((i : Int) + 1) = ((i + 1 : Nat) : Int) := by unfold wrap64; omega
    have hw2 : Int.tmod (wrap64 (((a % 64 : Nat) : Int) + 1)) 64 = (((a + 1) % 64 : Nat) : Int) := by
      have : wrap64 (((a % 64 : Nat) : Int) + 1) = ((a % 64 + 1 : Nat) : Int) := by unfold wrap64; omega
      rw [this]
      have e : (((a % 64 + 1) % 64 : Nat) : Int) = (((a + 1) % 64 : Nat) : Int) := by rw [Nat.mod_add_mod]
      exact e
    simp only [catafalquelaw06_BitsNext.l0]
    rw [count_f hm k S hS hk64, hw2, has_f S _ hS, hh, g1, hw]
    simp only [Option.bind_some, if_true]
    rw [if_pos hip]
    by_cases hi0 : i > 0
    · rw [if_pos (Int.natCast_pos.2 hi0), if_neg (hne2 hi0)]; exact hi
    · rw [if_neg (fun h => hi0 (Int.natCast_pos.1 h))]; exact hi
theorem BitsNext : catafalquelaw06_BitsNext.Pure := by
  intro x n hx _
  obtain ⟨S, rfl, hS⟩ := u64_nat x hx
  obtain ⟨m, hm⟩ : ∃ m : Nat, m = 64 := ⟨_, rfl⟩
  have hl := pc_le m S
  refine ⟨301, ?_⟩
  unfold catafalquelaw06_BitsNext.f
  rw [shown_f 301 (by omega), count_f hm 301 S hS (by omega)]
  simp only [Option.bind_some]
  rcases next_f 301 S n hS (by omega) with ⟨j, b1, b2, b3, b4⟩ | ⟨b1, b2⟩
  · have h0 : ¬ (S : Int) = 0 := by
      intro e
      have : S = 0 := by omega
      subst this
      unfold Q at b3; simp at b3
    rw [b2]
    simp only [Option.bind_some]
    rw [if_neg h0]
    exact next_round hm S hS (fr n + j) b3 (pc m S) 301 (fr n + j) 0 (Nat.le_refl _) (by omega) b3 (by omega) (by omega) (by omega) (by omega)
  · have h0 : S = 0 := by
      have hz := cnt_none (Q S) (fr n) m (fun i h1 h2 => by have := b2 (i - fr n) (by omega); rwa [show fr n + (i - fr n) = i by omega] at this)
      have hr := cnt_round hm S (fr n)
      by_cases e : S = 0
      · exact e
      · have := pc_less m S e (by rw [hm]; exact hS); omega
    rw [b1]
    simp only [Option.bind_some]
    rw [if_pos (by omega)]
    simp only [if_true]
    subst h0
    rw [pc_zero]; rfl

end Go.Proofs.Ytblmhjfjkabocaa.Pure
