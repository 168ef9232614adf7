/- The plain law BoxBack. -/
import Derived.Test.YtibkpacjijbblaaQBoxx6
import Derived.Test.YtibkpacjijbblaaPlainBox
namespace Go.Proofs.Ytibkpacjijbblaa.Pure
open Go Go.RowKit Go.Proofs.Ytibkpacjijbblaa.QBox Go.Proofs.YtibkpacjijbblaaW.PrintWords Go.Proofs.YtibkpacjijbblaaW.PrintLast Go.Proofs.YtibkpacjijbblaaW.PrintMore
theorem in_l (l : List Int) (x : Int) (hl : l.length < 1000000) : ∀ (d k i : Nat), i ≤ l.length → l.length - i = d → d < k → ∃ t, catafalqueref01_In.l0 k l x (i : Int) = some t := by
  intro d
  induction d with
  | zero =>
    intro k i hi hd hk
    obtain ⟨k, rfl⟩ : ∃ m, k = m + 1 := ⟨k - 1, by omega⟩
    refine ⟨false, ?_⟩
    simp only [catafalqueref01_In.l0]
    rw [if_neg (by omega)]
  | succ d ih =>
    intro k i hi hd hk
    obtain ⟨k, rfl⟩ : ∃ m, k = m + 1 := ⟨k - 1, by omega⟩
    have q1 : (i : Int) < (l.length : Int) := by omega
    obtain ⟨t, ht⟩ := ih k (i + 1) (by omega) (by omega) (by omega)
    simp only [catafalqueref01_In.l0]
    rw [if_pos q1, if_pos (Int.natCast_nonneg i), wrap_nat i (by omega)]
    by_cases h : rd l (i : Int) = x
    · exact ⟨true, by rw [if_pos h]⟩
    · exact ⟨t, by rw [if_neg h]; exact ht⟩
theorem ref_l1 (l : List Int) (hl : l.length < 1000) (R : Int) (M : List Int) (S : List S71) (W : List Int) : ∀ (d k i : Nat), i ≤ l.length → l.length - i = d → d + 2000 < k →
    ∃ t, catafalqueref11_May.l1 k l (i : Int) R M S W = some t ∧ (t = true → (M.length : Int) < R → S.length = 0) := by
  intro d
  induction d with
  | zero =>
    intro k i hi hd hk
    obtain ⟨k, rfl⟩ : ∃ m, k = m + 1 := ⟨k - 1, by omega⟩
    have q : ¬ (i : Int) < (l.length : Int) := by omega
    simp only [catafalqueref11_May.l1]
    rw [if_neg q]
    by_cases a1 : R < 0
    · exact ⟨false, by rw [if_pos a1], fun h => by cases h⟩
    · rw [if_neg a1]
      by_cases a2 : R > 8
      · exact ⟨false, by rw [if_pos a2], fun h => by cases h⟩
      · rw [if_neg a2]
        by_cases a3 : (M.length : Int) > R
        · exact ⟨false, by rw [if_pos a3], fun h => by cases h⟩
        · rw [if_neg a3]
          have fin : ∃ t, (if (W.length : Int) = 0 then some true else if (M.length : Int) = 0 then some ((S.length : Int) == 0) else some false) = some t := by
            by_cases b1 : (W.length : Int) = 0
            · exact ⟨_, by rw [if_pos b1]⟩
            · rw [if_neg b1]
              by_cases b2 : (M.length : Int) = 0
              · exact ⟨_, by rw [if_pos b2]⟩
              · exact ⟨_, by rw [if_neg b2]⟩
          obtain ⟨t, ht⟩ := fin
          by_cases a4 : (M.length : Int) < R
          · rw [if_pos a4]
            by_cases a5 : (S.length : Int) > 0
            · exact ⟨false, by rw [if_pos a5], fun h => by cases h⟩
            · rw [if_neg a5]; exact ⟨t, ht, fun _ _ => by omega⟩
          · rw [if_neg a4]; exact ⟨t, ht, fun _ h => absurd h a4⟩
  | succ d ih =>
    intro k i hi hd hk
    obtain ⟨k, rfl⟩ : ∃ m, k = m + 1 := ⟨k - 1, by omega⟩
    have q1 : (i : Int) < (l.length : Int) := by omega
    have q2 : (i : Int) ≤ (l.length : Int) := by omega
    have i1 := ih k (i + 1) (by omega) (by omega) (by omega)
    obtain ⟨t, ht⟩ := in_l (l.take i) (rd l (i : Int)) (by rw [List.length_take]; omega) _ k 0 (Nat.zero_le _) rfl (by rw [List.length_take]; omega)
    have ht' : catafalqueref01_In.f k (l.take i) (rd l (i : Int)) = some t := ht
    simp only [catafalqueref11_May.l1]
    rw [if_pos q1, if_pos (Int.natCast_nonneg i)]
    by_cases a1 : rd l (i : Int) < 1
    · exact ⟨false, by rw [if_pos a1], fun h => by cases h⟩
    · rw [if_neg a1, if_pos q2, Int.toNat_natCast, ht']
      simp only [Option.bind_some]
      cases t with
      | true => exact ⟨false, by rw [if_pos rfl], fun h => by cases h⟩
      | false => rw [if_neg (by decide), wrap_nat i (by omega)]; exact i1
theorem ref_l0 (R : Int) (M : List Int) (S : List S71) (W : List Int) (hS : S.length ≤ 100) (hW : W.length ≤ 100) : ∀ (d k i : Nat) (a : List Int), i ≤ S.length → S.length - i = d → a.length = i → d + 4000 < k →
    ∃ t, catafalqueref11_May.l0 k a (i : Int) R M S W = some t ∧ (t = true → (M.length : Int) < R → S.length = 0) := by
  intro d
  induction d with
  | zero =>
    intro k i a hi hd ha hk
    obtain ⟨k, rfl⟩ : ∃ m, k = m + 1 := ⟨k - 1, by omega⟩
    have q : ¬ (i : Int) < (S.length : Int) := by omega
    have q2 : a.length + W.length < 17592186044416 := by omega
    have := ref_l1 (a ++ W) (by rw [List.length_append]; omega) R M S W _ k 0 (Nat.zero_le _) rfl (by rw [List.length_append]; omega)
    simp only [catafalqueref11_May.l0]
    rw [if_neg q, if_pos q2]
    exact this
  | succ d ih =>
    intro k i a hi hd ha hk
    obtain ⟨k, rfl⟩ : ∃ m, k = m + 1 := ⟨k - 1, by omega⟩
    have q1 : (i : Int) < (S.length : Int) := by omega
    have q2 : a.length < 17592186044416 := by omega
    have i1 := fun v => ih k (i + 1) (a ++ [v]) (by omega) (by omega) (by rw [List.length_append, ha]; rfl) (by omega)
    simp only [catafalqueref11_May.l0]
    rw [if_pos q1, if_pos (Int.natCast_nonneg i), if_pos q2, wrap_nat i (by omega)]
    exact i1 _
theorem back_l (R : Int) (M : List Int) (S : List S71) (W : List Int) (n : Int) (hM : M.length ≤ 100) : ∀ (d k i : Nat), i ≤ M.length → M.length - i = d → d + 10 < k →
    catafalquelaw11_BoxBack.l0 k n true (i : Int) R M S W R (M.drop i ++ [n]) [] [] = some true := by
  intro d
  induction d with
  | zero =>
    intro k i hi hd hk
    obtain ⟨k, rfl⟩ : ∃ m, k = m + 2 := ⟨k - 2, by omega⟩
    have q : ¬ (i : Int) < (M.length : Int) := by omega
    have e : M.drop i ++ [n] = n :: [] := by rw [List.drop_of_length_le (by omega)]; rfl
    rw [catafalquelaw11_BoxBack.l0]
    rw [if_neg q, e, recv_msg k R n [] [] 1000 (by simp)]
    simp
  | succ d ih =>
    intro k i hi hd hk
    obtain ⟨k, rfl⟩ : ∃ m, k = m + 2 := ⟨k - 2, by omega⟩
    have hlt : i < M.length := by omega
    have q : (i : Int) < (M.length : Int) := by omega
    have e : M.drop i ++ [n] = M[i] :: (M.drop (i + 1) ++ [n]) := by rw [List.drop_eq_getElem_cons hlt]; rfl
    have r : rd M (i : Int) = M[i] := by rw [rd_nat, List.getD_eq_getElem?_getD, List.getElem?_eq_getElem hlt]; rfl
    have i1 := ih (k + 1) (i + 1) (by omega) (by omega) (by omega)
    rw [catafalquelaw11_BoxBack.l0]
    rw [if_pos q, e, recv_msg k R M[i] _ [] 1000 (by rw [List.length_append, List.length_drop]; simp; omega)]
    simp only [Option.bind_some]
    rw [if_pos (Int.natCast_nonneg i), if_pos r.symm, if_pos trivial, if_pos trivial, wrap_nat i (by omega)]
    exact i1
theorem BoxBack_f (R : Int) (M : List Int) (S : List S71) (W : List Int) (n : Int) : catafalquelaw11_BoxBack.f 9000 R M S W n = some true := by
  have jt : ∀ k, catafalquelaw11_BoxBack.j0 (k + 1) n true true R M S W = some true := fun k => by simp [catafalquelaw11_BoxBack.j0]
  unfold catafalquelaw11_BoxBack.f catafalquelaw11_few.f
  rw [shown_f 9000 (by omega)]
  simp only [Option.bind_some]
  by_cases c1 : (M.length : Int) ≤ 100
  · rw [if_pos c1]
    by_cases c2 : (S.length : Int) ≤ 100
    · rw [if_pos c2]
      by_cases c3 : (W.length : Int) ≤ 100
      · rw [decide_eq_true c3]
        simp only [Option.bind_some, if_true]
        obtain ⟨t, ht, hs⟩ := ref_l0 R M S W (by omega) (by omega) S.length 9000 0 [] (Nat.zero_le _) (by omega) rfl (by omega)
        have ht' : catafalqueref11_May.f 9000 R M S W = some t := ht
        rw [ht']
        simp only [Option.bind_some]
        cases t with
        | false => rw [if_neg (by decide)]; exact jt 8999
        | true =>
          rw [if_pos rfl]
          by_cases c4 : (W.length : Int) > 0
          · rw [if_pos c4]; exact jt 8999
          · rw [if_neg c4]
            by_cases c5 : (M.length : Int) ≥ R
            · rw [decide_eq_true c5]; exact jt 8999
            · rw [decide_eq_false c5]
              have hS := hs rfl (by omega)
              obtain rfl := List.length_eq_zero_iff.1 hS
              obtain rfl : W = [] := List.length_eq_zero_iff.1 (by omega)
              have hmade : catafalquelaw11_made.f 8999 R M [] [] = some (R, M, [], []) := by
                unfold catafalquelaw11_made.f
                simp only [Option.bind_some, List.nil_append, List.length_nil]
                rw [if_pos (by omega), if_pos (by omega), catafalquelaw11_made.l0]
                simp
              simp only [catafalquelaw11_BoxBack.j0]
              rw [if_neg (by decide), hmade]
              simp only [Option.bind_some]
              rw [send_room R M [] 1000 n (by omega) (by omega)]
              simp only [Option.bind_some, if_true, Bool.not_true]
              simp only [catafalquelaw11_BoxBack.j1]
              rw [if_neg (by decide)]
              have := back_l R M [] [] n (by omega) M.length 8998 0 (Nat.zero_le _) (by omega) (by omega)
              rw [List.drop_zero] at this
              exact this
      · rw [decide_eq_false c3]
        simp only [Option.bind_some]
        rw [if_neg (by decide)]; exact jt 8999
    · rw [if_neg c2]
      simp only [Option.bind_some]
      rw [if_neg (by decide)]; exact jt 8999
  · rw [if_neg c1]
    simp only [Option.bind_some]
    rw [if_neg (by decide)]; exact jt 8999
end Go.Proofs.Ytibkpacjijbblaa.Pure
