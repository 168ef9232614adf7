/- The plain law StatusWalks. -/
import Derived.Test.YtibkpacjijbblaaQStatusx2
import Derived.Test.YtibkpacjijbblaaPlainStatus
namespace Go.Proofs.Ytibkpacjijbblaa.Pure
open Go Go.RowKit Go.Proofs.Ytibkpacjijbblaa.QStatus Go.Proofs.YtibkpacjijbblaaW.PrintWords Go.Proofs.YtibkpacjijbblaaW.PrintLast Go.Proofs.YtibkpacjijbblaaW.PrintMore
theorem okAt_left (l k : List Int) (i : Nat) (h : i + 1 < l.length) : okAt (l ++ k) i ↔ okAt l i := by
  have e1 : (l ++ k).getD i 0 = l.getD i 0 := by rw [List.getD_eq_getElem?_getD, List.getD_eq_getElem?_getD, List.getElem?_append_left (by omega)]
  have e2 : (l ++ k).getD (i + 1) 0 = l.getD (i + 1) 0 := by rw [List.getD_eq_getElem?_getD, List.getD_eq_getElem?_getD, List.getElem?_append_left (by omega)]
  unfold okAt
  rw [e1, e2, List.length_append]
  exact ⟨fun a => ⟨a.1, fun _ => a.2 (by omega)⟩, fun a => ⟨a.1, fun _ => a.2 h⟩⟩
theorem okAt_right (l k : List Int) (i : Nat) : okAt (l ++ k) (l.length + i) ↔ okAt k i := by
  have e : ∀ j, (l ++ k).getD (l.length + j) 0 = k.getD j 0 := fun j => by rw [List.getD_eq_getElem?_getD, List.getD_eq_getElem?_getD, List.getElem?_append_right (by omega), show l.length + j - l.length = j by omega]
  unfold okAt
  rw [show l.length + i + 1 = l.length + (i + 1) by omega, e, e, List.length_append]
  exact ⟨fun a => ⟨a.1, fun h => a.2 (by omega)⟩, fun a => ⟨a.1, fun h => a.2 (by omega)⟩⟩
/-- the whole row goes on -/
def whole (l : List Int) : Prop := ∀ j, j < l.length → okAt l j
def between (l k : List Int) : Prop := l.length = 0 ∨ k.length = 0 ∨ mayB (l.getD (l.length - 1) 0) (k.getD 0 0) = true
theorem whole_append (l k : List Int) : whole (l ++ k) ↔ whole l ∧ whole k ∧ between l k := by
  constructor
  · intro h
    have hr : whole k := fun j hj => (okAt_right l k j).1 (h _ (by rw [List.length_append]; omega))
    refine ⟨fun j hj => ?_, hr, ?_⟩
    · by_cases e : j + 1 < l.length
      · exact (okAt_left l k j e).1 (h j (by rw [List.length_append]; omega))
      · have := (h j (by rw [List.length_append]; omega)).1
        rw [List.getD_eq_getElem?_getD, List.getElem?_append_left hj, ← List.getD_eq_getElem?_getD] at this
        exact ⟨this, fun x => absurd x e⟩
    · by_cases e1 : l.length = 0
      · exact Or.inl e1
      · by_cases e2 : k.length = 0
        · exact Or.inr (Or.inl e2)
        · have := (h (l.length - 1) (by rw [List.length_append]; omega)).2 (by rw [List.length_append]; omega)
          rw [show l.length - 1 + 1 = l.length + 0 by omega] at this
          rw [List.getD_eq_getElem?_getD, List.getElem?_append_left (by omega), ← List.getD_eq_getElem?_getD, List.getD_eq_getElem?_getD (l := l ++ k), List.getElem?_append_right (by omega), show l.length + 0 - l.length = 0 by omega, ← List.getD_eq_getElem?_getD] at this
          exact Or.inr (Or.inr this)
  · rintro ⟨h1, h2, h3⟩ j hj
    rw [List.length_append] at hj
    by_cases e : j + 1 < l.length
    · exact (okAt_left l k j e).2 (h1 j (by omega))
    · by_cases e1 : j < l.length
      · have a := h1 j e1
        have ej : j = l.length - 1 := by omega
        unfold okAt
        rw [List.getD_eq_getElem?_getD, List.getElem?_append_left e1, ← List.getD_eq_getElem?_getD, List.length_append]
        refine ⟨a.1, fun x => ?_⟩
        rw [show j + 1 = l.length + 0 by omega, List.getD_eq_getElem?_getD (l := l ++ k), List.getElem?_append_right (by omega), show l.length + 0 - l.length = 0 by omega, ← List.getD_eq_getElem?_getD, ej]
        rcases h3 with h3 | h3 | h3
        · omega
        · omega
        · exact h3
      · obtain ⟨i, rfl⟩ : ∃ i, j = l.length + i := ⟨j - l.length, by omega⟩
        exact (okAt_right l k i).2 (h2 i (by omega))
theorem walks_end (l m : List Int) (hl : l.length ≤ 200) (hm : m.length ≤ 200) (k : Nat) (hk : 3000 ≤ k) (xs : List Int) (hx : xs.length = m.length) :
    catafalquelaw09_StatusWalks.l1 (k + 1) xs true l m ((m.length : Nat) : Int) = some true := by
  have q1 : ¬ ((m.length : Nat) : Int) < (xs.length : Int) := by omega
  have hlm : (l ++ m).length ≤ 1000 := by rw [List.length_append]; omega
  have w1 := walk_f k l (by omega) (by omega)
  have w2 := walk_f k m (by omega) (by omega)
  have w3 := walk_f k (l ++ m) hlm (by omega)
  have wa := whole_append l m
  -- what joins
  have both : ∃ b3 : Bool, ∃ n3, status_Walk.f k (l ++ m) = some (n3, b3) ∧ (b3 = true ↔ whole (l ++ m)) := by
    rcases w3 with ⟨n, a1, a2, a3, a4⟩ | ⟨a1, a2⟩
    · exact ⟨false, _, a4, by simp; exact fun h => a3 (h n a1)⟩
    · exact ⟨true, _, a2, by simp; exact a1⟩
  obtain ⟨b3, n3, e3, f3⟩ := both
  have two : ∃ b2 : Bool, ∃ n2, status_Walk.f k m = some (n2, b2) ∧ (b2 = true ↔ whole m) := by
    rcases w2 with ⟨n, a1, a2, a3, a4⟩ | ⟨a1, a2⟩
    · exact ⟨false, _, a4, by simp; exact fun h => a3 (h n a1)⟩
    · exact ⟨true, _, a2, by simp; exact a1⟩
  obtain ⟨b2, n2, e2, f2⟩ := two
  -- the rest, where the first row's end is known
  have rest : ∀ (n : Nat) (b1 : Bool) (t : Bool) (k' : Nat), 2500 ≤ k' → (t = true ↔ between l m) → (b1 = true ↔ whole l) → (b1 = false → n < l.length ∧ (∀ j, j < n → okAt l j) ∧ ¬ okAt l n) → (b1 = true → n = l.length) →
      catafalquelaw09_StatusWalks.j3 (k' + 2) true l (n : Int) b1 b2 b3 t = some true := by
    intro n b1 t k' hk' ht hb1 hf htr
    have hn : n ≤ l.length := by cases b1 with | false => have := (hf rfl).1; omega | true => have := htr rfl; omega
    have g1 : ¬ (n : Int) < 0 := by omega
    have g2 : ¬ (n : Int) > (l.length : Int) := by omega
    have g3 : (b1 != ((n : Int) == (l.length : Int))) = false := by
      cases b1 with
      | false => rw [beq_eq_false_iff_ne.2 (show (n : Int) ≠ (l.length : Int) by have := (hf rfl).1; omega)]; rfl
      | true => rw [beq_iff_eq.2 (show (n : Int) = (l.length : Int) by have := htr rfl; omega)]; rfl
    have g4 : wrap64 ((n : Int) + 1) = ((n + 1 : Nat) : Int) := by unfold wrap64; omega
    have g5 : mn ((n + 1 : Nat) : Int) (l.length : Int) = ((min (n + 1) l.length : Nat) : Int) := by unfold mn; omega
    have g6 : ((min (n + 1) l.length : Nat) : Int) ≤ (l.length : Int) := by omega
    have hb3 : b3 = (b1 && b2 && t) := by
      rw [Bool.eq_iff_iff]
      simp only [Bool.and_eq_true]
      rw [f3, wa, hb1, f2, ht, and_assoc]
    have hwt := walk_f (k') (l.take (min (n + 1) l.length)) (by rw [List.length_take]; omega) (by omega)
    have h4 : ∃ bg nn, status_Walk.f k' (l.take (min (n + 1) l.length)) = some (nn, bg) ∧ (b1 = false → bg = isS (l.getD n 0)) := by
      rcases hwt with ⟨n', a1, a2, a3, a4⟩ | ⟨a1, a2⟩
      · refine ⟨false, _, a4, fun hb => ?_⟩
        obtain ⟨c1, c2, c3⟩ := hf hb
        rw [List.length_take] at a1
        have hmin : min (n + 1) l.length = n + 1 := by omega
        rw [hmin] at a1 a3
        have gt : ∀ j, j < n + 1 → (l.take (n + 1)).getD j 0 = l.getD j 0 := fun j hj => by rw [List.getD_eq_getElem?_getD, List.getElem?_take_of_lt hj, ← List.getD_eq_getElem?_getD]
        by_cases e : n' = n
        · subst e
          have : ¬ isS (l.getD n' 0) = true := fun hs => a3 ⟨by rw [gt n' (by omega)]; exact hs, fun x => by rw [List.length_take] at x; omega⟩
          cases hz : isS (l.getD n' 0) with
          | false => rfl
          | true => exact absurd hz this
        · have := c2 n' (by omega)
          exact absurd ⟨by rw [gt n' (by omega)]; exact this.1, fun _ => by rw [gt n' (by omega), gt (n' + 1) (by omega)]; exact this.2 (by omega)⟩ a3
      · refine ⟨true, _, a2, fun hb => ?_⟩
        obtain ⟨c1, c2, c3⟩ := hf hb
        have hmin : min (n + 1) l.length = n + 1 := by omega
        rw [hmin] at a1
        have := (a1 n (by rw [List.length_take]; omega)).1
        rw [List.getD_eq_getElem?_getD, List.getElem?_take_of_lt (by omega), ← List.getD_eq_getElem?_getD] at this
        exact this.symm
    obtain ⟨bg, nn, h5, h6⟩ := h4
    simp only [catafalquelaw09_StatusWalks.j3]
    rw [if_neg g1, if_neg g2, g3]
    simp only [catafalquelaw09_StatusWalks.j4]
    rw [if_neg (by decide), g4, g5, if_pos (Int.natCast_nonneg _), if_pos g6, Int.toNat_natCast, h5]
    simp only [Option.bind_some, if_true]
    cases b1 with
    | true =>
      simp only [if_true]
      rw [hb3]
      cases b2 <;> cases t <;> rfl
    | false =>
      have hx := (hf rfl).1
      have q : (n : Int) < (l.length : Int) := by omega
      obtain ⟨nm, hn1, hn2, hn3⟩ := name_f (l.getD n 0)
      rw [hb3]
      simp only [Bool.false_and, Bool.false_eq_true, if_false, beq_self_eq_true, if_true]
      rw [if_pos (Int.natCast_nonneg n), if_pos q, rd_nat, hn1, h6 rfl]
      simp only [Option.bind_some]
      cases hs : isS (l.getD n 0) with
      | true => simp [hn2 hs]
      | false => simp [hn3 hs]
  obtain ⟨k, rfl⟩ : ∃ m, k = m + 2 := ⟨k - 2, by omega⟩
  have fin : ∀ (n : Nat) (b1 : Bool), status_Walk.f (k + 2) l = some ((n : Int), b1) → (b1 = true ↔ whole l) → (b1 = false → n < l.length ∧ (∀ j, j < n → okAt l j) ∧ ¬ okAt l n) → (b1 = true → n = l.length) →
      catafalquelaw09_StatusWalks.l1 (k + 2 + 1) xs true l m ((m.length : Nat) : Int) = some true := by
    intro n b1 hw hb1 hf htr
    have l1 : ([] : List Int).length + l.length < 17592186044416 := by simp; omega
    have l2 : l.length + m.length < 17592186044416 := by omega
    rw [catafalquelaw09_StatusWalks.l1]
    rw [if_neg q1, hw]
    simp only [Option.bind_some]
    rw [e2]
    simp only [Option.bind_some]
    rw [if_pos l1]
    simp only [List.nil_append]
    rw [if_pos l2, e3]
    simp only [Option.bind_some]
    by_cases c1 : (l.length : Int) = 0
    · rw [if_pos c1]; exact rest n b1 true k (by omega) (by simp; exact Or.inl (by omega)) hb1 hf htr
    · rw [if_neg c1]
      by_cases c2 : (m.length : Int) = 0
      · rw [if_pos c2]; exact rest n b1 true k (by omega) (by simp; exact Or.inr (Or.inl (by omega))) hb1 hf htr
      · have e1 : wrap64 ((l.length : Int) - 1) = ((l.length - 1 : Nat) : Int) := by unfold wrap64; omega
        have g : rd m 0 = m.getD 0 0 := rfl
        rw [if_neg c2, e1, if_pos (Int.natCast_nonneg _), if_pos (by omega), if_pos (by omega), rd_nat, g, may_f (k + 2) _ _ (by omega)]
        simp only [Option.bind_some]
        refine rest n b1 _ k (by omega) ⟨fun h => Or.inr (Or.inr h), fun h => ?_⟩ hb1 hf htr
        rcases h with h | h | h
        · omega
        · omega
        · exact h
  rcases w1 with ⟨n, a1, a2, a3, a4⟩ | ⟨a1, a2⟩
  · exact fin n false a4 (by simp; exact fun h => a3 (h n a1)) (fun _ => ⟨a1, a2, a3⟩) (fun h => by cases h)
  · exact fin l.length true a2 (by simp; exact a1) (fun h => by cases h) (fun _ => rfl)
theorem walks_l1 (xs l : List Int) (hx : xs.length ≤ 200) (hl : l.length ≤ 200) : ∀ (d k i : Nat) (m : List Int), i ≤ xs.length → xs.length - i = d → m.length = i → d + 5000 < k →
    catafalquelaw09_StatusWalks.l1 k xs true l m (i : Int) = some true := by
  intro d
  induction d with
  | zero =>
    intro k i m hi hd hm hk
    obtain ⟨k, rfl⟩ : ∃ m, k = m + 1 := ⟨k - 1, by omega⟩
    rw [← hm]
    exact walks_end l m hl (by omega) k (by omega) xs (by omega)
  | succ d ih =>
    intro k i m hi hd hm hk
    obtain ⟨k, rfl⟩ : ∃ m, k = m + 1 := ⟨k - 1, by omega⟩
    have q1 : (i : Int) < (xs.length : Int) := by omega
    have q2 : m.length < 17592186044416 := by omega
    have i1 := fun v => ih k (i + 1) (m ++ [v]) (by omega) (by omega) (by rw [List.length_append, hm]; rfl) (by omega)
    simp only [catafalquelaw09_StatusWalks.l1]
    rw [if_pos q1, if_pos (Int.natCast_nonneg i), if_pos q2, wrap_nat i (by omega)]
    exact i1 _
theorem walks_l0 (xs ys : List Int) (hx : xs.length ≤ 200) (hy : ys.length ≤ 200) : ∀ (d k i : Nat) (l : List Int), i ≤ xs.length → xs.length - i = d → l.length = i → d + 6000 < k →
    catafalquelaw09_StatusWalks.l0 k xs ys true l (i : Int) = some true := by
  intro d
  induction d with
  | zero =>
    intro k i l hi hd hl hk
    obtain ⟨k, rfl⟩ : ∃ m, k = m + 1 := ⟨k - 1, by omega⟩
    have q1 : ¬ (i : Int) < (xs.length : Int) := by omega
    simp only [catafalquelaw09_StatusWalks.l0]
    rw [if_neg q1]
    exact walks_l1 ys l hy (by omega) ys.length k 0 [] (Nat.zero_le _) (by omega) rfl (by omega)
  | succ d ih =>
    intro k i l hi hd hl hk
    obtain ⟨k, rfl⟩ : ∃ m, k = m + 1 := ⟨k - 1, by omega⟩
    have q1 : (i : Int) < (xs.length : Int) := by omega
    have q2 : l.length < 17592186044416 := by omega
    have i1 := fun v => ih k (i + 1) (l ++ [v]) (by omega) (by omega) (by rw [List.length_append, hl]; rfl) (by omega)
    simp only [catafalquelaw09_StatusWalks.l0]
    rw [if_pos q1, if_pos (Int.natCast_nonneg i), if_pos q2, wrap_nat i (by omega)]
    exact i1 _
theorem StatusWalks : catafalquelaw09_StatusWalks.Pure := by
  intro xs ys _ _ _ _ _ _
  have jt : ∀ k, catafalquelaw09_StatusWalks.j0 (k + 1) xs ys true true = some true := fun k => by simp [catafalquelaw09_StatusWalks.j0]
  refine ⟨9001, ?_⟩
  unfold catafalquelaw09_StatusWalks.f
  rw [shown_f 9001 (by omega)]
  simp only [Option.bind_some]
  by_cases c1 : (xs.length : Int) > 200
  · rw [if_pos c1]; exact jt 9000
  · rw [if_neg c1]
    by_cases c2 : (ys.length : Int) > 200
    · rw [decide_eq_true c2]; exact jt 9000
    · rw [decide_eq_false c2]
      simp only [catafalquelaw09_StatusWalks.j0]
      rw [if_neg (by decide)]
      exact walks_l0 xs ys (by omega) (by omega) xs.length 9000 0 [] (Nat.zero_le _) (by omega) rfl (by omega)
end Go.Proofs.Ytibkpacjijbblaa.Pure
