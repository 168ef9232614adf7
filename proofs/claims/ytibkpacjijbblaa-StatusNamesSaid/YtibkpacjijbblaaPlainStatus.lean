/- Statuses, plainly: what the program's functions of layer 9 come to. -/
import Derived.Test.YtibkpacjijbblaaQStatusx1
namespace Go.Proofs.Ytibkpacjijbblaa.Pure
open Go Go.RowKit Go.Proofs.Ytibkpacjijbblaa.QStatus Go.Proofs.YtibkpacjijbblaaW.PrintWords Go.Proofs.YtibkpacjijbblaaW.PrintLast Go.Proofs.YtibkpacjijbblaaW.PrintMore
/-! ### statuses, plainly -/
def mayB (a b : Int) : Bool := (decide (a = 2) && (decide (b = 3) || decide (b = 4) || decide (b = 1))) || ((decide (a = 0) || decide (a = 3)) && decide (b = 1)) || (decide (a = 1) && decide (b = 2)) || (decide (a = 4) && decide (b = 0))
theorem may_f (k : Nat) (a b : Int) (hk : 0 < k) : status_May.f k a b = some (mayB a b) := by
  obtain ⟨k, rfl⟩ : ∃ m, k = m + 1 := ⟨k - 1, by omega⟩
  unfold status_May.f mayB
  by_cases h2 : a = 2
  · subst h2
    by_cases h3 : b = 3
    · subst h3; rfl
    · by_cases h4 : b = 4
      · subst h4; rfl
      · simp [h3, h4]; rfl
  · by_cases h0 : a = 0
    · subst h0; simp [status_May.j0]; rfl
    · by_cases h3 : a = 3
      · subst h3; simp [status_May.j0]; rfl
      · by_cases h1 : a = 1
        · subst h1; simp [status_May.j0]; rfl
        · by_cases h4 : a = 4
          · subst h4; simp [status_May.j0]; rfl
          · simp [status_May.j0, h0, h1, h2, h3, h4]
def isS (a : Int) : Bool := decide (0 ≤ a ∧ a ≤ 4)
theorem name_f (a : Int) : ∃ n : ByteArray, status_Name.f a = some n ∧ (isS a = true → n.toList ≠ []) ∧ (isS a = false → n.toList = []) := by
  unfold status_Name.f isS
  by_cases h0 : a = 0
  · subst h0; exact ⟨_, rfl, fun _ => by decide +kernel, fun h => by simp at h⟩
  · by_cases h1 : a = 1
    · subst h1; exact ⟨_, rfl, fun _ => by decide +kernel, fun h => by simp at h⟩
    · by_cases h2 : a = 2
      · subst h2; exact ⟨_, rfl, fun _ => by decide +kernel, fun h => by simp at h⟩
      · by_cases h3 : a = 3
        · subst h3; exact ⟨_, rfl, fun _ => by decide +kernel, fun h => by simp at h⟩
        · by_cases h4 : a = 4
          · subst h4; exact ⟨_, rfl, fun _ => by decide +kernel, fun h => by simp at h⟩
          · rw [if_neg h0, if_neg h1, if_neg h2, if_neg h3, if_neg h4]
            exact ⟨_, rfl, fun h => by simp at h; omega, fun _ => by decide +kernel⟩
/-- a row goes on at a place -/
def okAt (l : List Int) (i : Nat) : Prop := isS (l.getD i 0) = true ∧ (i + 1 < l.length → mayB (l.getD i 0) (l.getD (i + 1) 0) = true)
theorem wrap_nat (i : Nat) (h : i < 17592186044416) : wrap64 ((i : Int) + 1) = ((i + 1 : Nat) : Int) := by unfold wrap64; omega
theorem rd_nat (l : List Int) (i : Nat) : rd l (i : Int) = l.getD i 0 := by unfold rd; rw [Int.toNat_natCast]
theorem walk_l (l : List Int) (hl : l.length ≤ 1000) : ∀ (d k i : Nat), i ≤ l.length → l.length - i = d → d < k →
    (∃ n, i ≤ n ∧ n < l.length ∧ (∀ j, i ≤ j → j < n → okAt l j) ∧ ¬ okAt l n ∧ status_Walk.l0 (k + 1) l l (l.length : Int) (i : Int) = some ((n : Int), false)) ∨
    ((∀ j, i ≤ j → j < l.length → okAt l j) ∧ status_Walk.l0 (k + 1) l l (l.length : Int) (i : Int) = some ((l.length : Int), true)) := by
  intro d
  induction d with
  | zero =>
    intro k i hi hd hk
    refine Or.inr ⟨fun j h1 h2 => by omega, ?_⟩
    simp only [status_Walk.l0]
    rw [if_neg (by omega)]
  | succ d ih =>
    intro k i hi hd hk
    obtain ⟨k, rfl⟩ : ∃ m, k = m + 1 := ⟨k - 1, by omega⟩
    have q1 : (i : Int) < (l.length : Int) := by omega
    obtain ⟨n, hn, n1, n2⟩ := name_f (l.getD i 0)
    have hw := wrap_nat i (by omega)
    have next : okAt l i → (∃ n, i ≤ n ∧ n < l.length ∧ (∀ j, i ≤ j → j < n → okAt l j) ∧ ¬ okAt l n ∧ status_Walk.l0 (k + 1) l l (l.length : Int) ((i + 1 : Nat) : Int) = some ((n : Int), false)) ∨
        ((∀ j, i ≤ j → j < l.length → okAt l j) ∧ status_Walk.l0 (k + 1) l l (l.length : Int) ((i + 1 : Nat) : Int) = some ((l.length : Int), true)) := by
      intro ho
      rcases ih k (i + 1) (by omega) (by omega) (by omega) with ⟨n, a1, a2, a3, a4, a5⟩ | ⟨a1, a2⟩
      · refine Or.inl ⟨n, by omega, a2, fun j b1 b2 => ?_, a4, a5⟩
        by_cases e : j = i
        · subst e; exact ho
        · exact a3 j (by omega) b2
      · refine Or.inr ⟨fun j b1 b2 => ?_, a2⟩
        by_cases e : j = i
        · subst e; exact ho
        · exact a1 j (by omega) b2
    have stop : ¬ okAt l i → ∃ n, i ≤ n ∧ n < l.length ∧ (∀ j, i ≤ j → j < n → okAt l j) ∧ ¬ okAt l n ∧ (some ((i : Int), false) : Option (Int × Bool)) = some ((n : Int), false) :=
      fun h => ⟨i, Nat.le_refl _, by omega, fun j a b => by omega, h, rfl⟩
    have e : status_Walk.l0 (k + 1 + 1) l l (l.length : Int) (i : Int) = if n.toList = [] then some ((i : Int), false) else if ((i + 1 : Nat) : Int) < (l.length : Int) then (if mayB (l.getD i 0) (l.getD (i + 1) 0) = true then status_Walk.l0 (k + 1) l l (l.length : Int) ((i + 1 : Nat) : Int) else some ((i : Int), false)) else status_Walk.l0 (k + 1) l l (l.length : Int) ((i + 1 : Nat) : Int) := by
      rw [status_Walk.l0]
      rw [if_pos q1, if_pos (Int.natCast_nonneg i), if_pos q1, rd_nat, hn, hw]
      simp only [Option.bind_some]
      rw [rd_nat, may_f (k + 1) _ _ (by omega)]
      simp only [Option.bind_some, if_pos (Int.natCast_nonneg (i + 1))]
    rw [e]
    by_cases hs : isS (l.getD i 0) = true
    · rw [if_neg (n1 hs)]
      by_cases hlt : i + 1 < l.length
      · rw [if_pos (by omega)]
        by_cases hm : mayB (l.getD i 0) (l.getD (i + 1) 0) = true
        · rw [if_pos hm]; exact next ⟨hs, fun _ => hm⟩
        · rw [if_neg hm]; exact Or.inl (stop fun h => hm (h.2 hlt))
      · rw [if_neg (by omega)]; exact next ⟨hs, fun h => absurd h hlt⟩
    · rw [if_pos (n2 (by simpa using hs))]; exact Or.inl (stop fun h => hs h.1)
theorem walk_f (k : Nat) (l : List Int) (hl : l.length ≤ 1000) (hk : 2000 ≤ k) :
    (∃ n, n < l.length ∧ (∀ j, j < n → okAt l j) ∧ ¬ okAt l n ∧ status_Walk.f k l = some ((n : Int), false)) ∨
    ((∀ j, j < l.length → okAt l j) ∧ status_Walk.f k l = some ((l.length : Int), true)) := by
  obtain ⟨k, rfl⟩ : ∃ m, k = m + 1 := ⟨k - 1, by omega⟩
  rcases walk_l l hl l.length k 0 (Nat.zero_le _) (by omega) (by omega) with ⟨n, a1, a2, a3, a4, a5⟩ | ⟨a1, a2⟩
  · exact Or.inl ⟨n, a2, fun j h => a3 j (Nat.zero_le _) h, a4, a5⟩
  · exact Or.inr ⟨fun j h => a1 j (Nat.zero_le _) h, a2⟩
theorem shown_f (k : Nat) (hk : 100 ≤ k) : catafalquelaw09_shown.f k = some true :=
  at_rounds catafalquelaw09_shown.mono hk (by decide +kernel)
end Go.Proofs.Ytibkpacjijbblaa.Pure
