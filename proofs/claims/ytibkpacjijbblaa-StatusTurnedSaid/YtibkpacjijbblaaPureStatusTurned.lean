/- The plain law StatusTurned. -/
import Derived.Test.YtibkpacjijbblaaQStatusx3
import Derived.Test.YtibkpacjijbblaaPlainStatus
namespace Go.Proofs.Ytibkpacjijbblaa.Pure
open Go Go.RowKit Go.Proofs.Ytibkpacjijbblaa.QStatus Go.Proofs.YtibkpacjijbblaaW.PrintWords Go.Proofs.YtibkpacjijbblaaW.PrintLast Go.Proofs.YtibkpacjijbblaaW.PrintMore
theorem turned_l (xs : List Int) (at_ : Int) (h0 : 0 ≤ at_) (h1 : at_ ≤ 255) (odd : Int) (ho : isS odd = false) (hx : xs.length ≤ 200) (hne : xs.length ≠ 0) : ∀ (d k i : Nat) (a : List Int), i ≤ xs.length → xs.length - i = d → a.length = i → d + 3000 < k →
    catafalquelaw09_StatusTurned.l0 k xs at_ odd true a (i : Int) = some true := by
  intro d
  induction d with
  | zero =>
    intro k i a hi hd ha hk
    obtain ⟨k, rfl⟩ : ∃ m, k = m + 1 := ⟨k - 1, by omega⟩
    have hla : a.length = xs.length := by omega
    have e1 : Int.tmod (wrap64 at_) (a.length : Int) = ((at_.toNat % a.length : Nat) : Int) := by
      have : wrap64 at_ = ((at_.toNat : Nat) : Int) := by unfold wrap64; omega
      rw [this]; rfl
    have hm := Nat.mod_lt at_.toNat (show 0 < a.length by omega)
    have q1 : ¬ (i : Int) < (xs.length : Int) := by omega
    have q2 : ¬ (a.length : Int) = 0 := by omega
    have q3 : ((at_.toNat % a.length : Nat) : Int) < (a.length : Int) := by omega
    have hb : ¬ okAt (a.set (at_.toNat % a.length) odd) (at_.toNat % a.length) := by
      intro h
      have := h.1
      rw [List.getD_eq_getElem?_getD, List.getElem?_set_self hm] at this
      simp [ho] at this
    have hw := walk_f k (a.set (at_.toNat % a.length) odd) (by rw [List.length_set]; omega) (by omega)
    rw [List.length_set] at hw
    simp only [catafalquelaw09_StatusTurned.l0]
    rw [if_neg q1, if_neg q2, e1, if_pos (Int.natCast_nonneg _), if_pos q3, Int.toNat_natCast]
    rcases hw with ⟨n, b1, b2, b3, b4⟩ | ⟨b1, _⟩
    · rw [b4]
      have hle : n ≤ at_.toNat % a.length := by
        by_cases e : n ≤ at_.toNat % a.length
        · exact e
        · exact absurd (b2 _ (by omega)) hb
      simp only [Option.bind_some, if_true]
      have g1 : (n : Int) ≤ ((at_.toNat % a.length : Nat) : Int) := Int.ofNat_le.2 hle
      rw [if_neg (by decide), if_pos g1]
      by_cases e : (n : Int) = ((at_.toNat % a.length : Nat) : Int)
      · rw [if_pos e]
      · rw [if_neg e, decide_eq_true (Int.lt_iff_le_and_ne.2 ⟨g1, e⟩)]
    · exact absurd (b1 _ hm) hb
  | succ d ih =>
    intro k i a hi hd ha hk
    obtain ⟨k, rfl⟩ : ∃ m, k = m + 1 := ⟨k - 1, by omega⟩
    have q1 : (i : Int) < (xs.length : Int) := by omega
    have q2 : a.length < 17592186044416 := by omega
    have i1 := fun v => ih k (i + 1) (a ++ [v]) (by omega) (by omega) (by rw [List.length_append, ha]; rfl) (by omega)
    simp only [catafalquelaw09_StatusTurned.l0]
    rw [if_pos q1, if_pos (Int.natCast_nonneg i), if_pos q2, wrap_nat i (by omega)]
    exact i1 _
theorem u8_range {a : Int} (h : (Lit.int .u8 a).wf = true) : 0 ≤ a ∧ a ≤ 255 := by
  simp only [Lit.wf, Bool.and_eq_true, decide_eq_true_eq] at h
  have e1 : IntKind.u8.min = 0 := by decide
  have e2 : IntKind.u8.max = 255 := by decide
  rw [e1, e2] at h; exact h
theorem StatusTurned : catafalquelaw09_StatusTurned.Pure := by
  intro xs at_ odd _ _ _ ha _
  obtain ⟨h0, h1⟩ := u8_range ha
  have jt : ∀ k, catafalquelaw09_StatusTurned.j0 (k + 1) xs at_ odd true true = some true := fun k => by simp [catafalquelaw09_StatusTurned.j0]
  refine ⟨5001, ?_⟩
  unfold catafalquelaw09_StatusTurned.f
  rw [shown_f 5001 (by omega)]
  simp only [Option.bind_some]
  by_cases c1 : (xs.length : Int) > 200
  · rw [if_pos c1]; exact jt 5000
  · rw [if_neg c1]
    by_cases c2 : (xs.length : Int) = 0
    · rw [if_pos c2]; exact jt 5000
    · rw [if_neg c2]
      have go : isS odd = false → catafalquelaw09_StatusTurned.j0 5001 xs at_ odd true false = some true := by
        intro ho
        simp only [catafalquelaw09_StatusTurned.j0]
        rw [if_neg (by decide)]
        exact turned_l xs at_ h0 h1 odd ho (by omega) (by omega) xs.length 5000 0 [] (Nat.zero_le _) (by omega) rfl (by omega)
      by_cases c3 : odd ≥ 0
      · rw [if_pos c3]
        by_cases c4 : odd ≤ 4
        · rw [decide_eq_true c4]; exact jt 5000
        · rw [decide_eq_false c4]; exact go (by unfold isS; simp; omega)
      · rw [if_neg c3]; exact go (by unfold isS; simp; omega)
end Go.Proofs.Ytibkpacjijbblaa.Pure
