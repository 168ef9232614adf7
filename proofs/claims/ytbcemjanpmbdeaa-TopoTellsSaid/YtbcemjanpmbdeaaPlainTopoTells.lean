/- The plain law TopoTells. -/
import Derived.Test.YtbcemjanpmbdeaaQTopox6
import Derived.Test.YtbcemjanpmbdeaaPlainTopo
import Derived.Test.YtbcemjanpmbdeaaPlainTopoAbove
namespace Go.Proofs.Ytbcemjanpmbdeaa.Plain
open Go Go.RowKit Go.Proofs.Ytbcemjanpmbdeaa.QTopo Go.Proofs.YtbcemjanpmbdeaaW.PrintWords Go.Proofs.YtbcemjanpmbdeaaW.PrintLast Go.Proofs.YtbcemjanpmbdeaaW.PrintMore

/-! ### the law on the document's answers -/
theorem bind_id (o : Option Int) : (o.bind fun t => some t) = o := by cases o <;> rfl
theorem ints_l (a : List Int) (ha : a.length < 17592186044416) : ∀ (d k i : Nat), i ≤ a.length → a.length - i = d → d < k → catafalqueref01_Ints.l0 k a a (i : Int) = some true := by
  intro d
  induction d with
  | zero =>
    intro k i hi hd hk
    obtain ⟨k, rfl⟩ : ∃ m, k = m + 1 := ⟨k - 1, by omega⟩
    simp only [catafalqueref01_Ints.l0]
    rw [if_neg (by omega)]
  | succ d ih =>
    intro k i hi hd hk
    obtain ⟨k, rfl⟩ : ∃ m, k = m + 1 := ⟨k - 1, by omega⟩
    have q1 : (i : Int) < (a.length : Int) := by omega
    have i1 := ih k (i + 1) (by omega) (by omega) (by omega)
    simp only [catafalqueref01_Ints.l0]
    rw [if_pos q1, if_pos (Int.natCast_nonneg i), if_pos q1, if_pos trivial, wrap_nat i (by omega)]
    exact i1
theorem ints_same (k : Nat) (a : List Int) (ha : a.length < 17592186044416) (hk : a.length < k) : catafalqueref01_Ints.f k a a = some true := by
  unfold catafalqueref01_Ints.f
  rw [if_pos rfl]
  exact ints_l a ha a.length k 0 (Nat.zero_le _) (by omega) hk
/-- what the document asks, beside the first one -/
theorem ref_l1 (T : List S29) (hT : T.length ≤ 64) : ∀ (d k i : Nat), i ≤ T.length → T.length - i = d → d + 100 < k →
    ((∀ j, i ≤ j → j < T.length → L T j < 3 → 1 ≤ (sel (kid T j) T.length).length ∧ (sel (kid T j) T.length).length ≤ 8) → catafalqueref01_Check.l1 k T (i : Int) = some 0) ∧
    ((∃ j, i ≤ j ∧ j < T.length ∧ L T j < 3 ∧ ¬ (1 ≤ (sel (kid T j) T.length).length ∧ (sel (kid T j) T.length).length ≤ 8)) → catafalqueref01_Check.l1 k T (i : Int) = some 2) := by
  intro d
  induction d with
  | zero =>
    intro k i hi hd hk
    obtain ⟨k, rfl⟩ : ∃ m, k = m + 1 := ⟨k - 1, by omega⟩
    refine ⟨fun _ => ?_, fun ⟨j, h1, h2, _⟩ => by omega⟩
    simp only [catafalqueref01_Check.l1]
    rw [if_neg (by omega)]
  | succ d ih =>
    intro k i hi hd hk
    obtain ⟨k, rfl⟩ : ∃ m, k = m + 1 := ⟨k - 1, by omega⟩
    obtain ⟨y, n⟩ := ih k (i + 1) (by omega) (by omega) (by omega)
    have q1 : (i : Int) < (T.length : Int) := by omega
    have kf := catafalqueref01_Kids_f k T (i : Int) (by omega) (by omega)
    have hw := wrap_nat i (by omega)
    simp only [catafalqueref01_Check.l1]
    rw [if_pos q1, kf]
    simp only [Option.bind_some]
    rw [if_pos (Int.natCast_nonneg i), rd_f1, hw]
    by_cases h3 : L T i < 3
    · rw [if_pos h3]
      by_cases a1 : 1 ≤ (sel (kid T i) T.length).length
      · rw [if_neg (by omega)]
        by_cases a2 : (sel (kid T i) T.length).length ≤ 8
        · rw [if_neg (by omega)]
          refine ⟨fun h => y fun j h1 h2 h3 => h j (by omega) h2 h3, fun ⟨j, b1, b2, b3, b4⟩ => n ⟨j, ?_, b2, b3, b4⟩⟩
          by_cases e : j = i
          · subst e; exact absurd ⟨a1, a2⟩ b4
          · omega
        · rw [if_pos (by omega)]
          exact ⟨fun h => absurd (h i (Nat.le_refl _) (by omega) h3).2 a2, fun _ => rfl⟩
      · rw [if_pos (by omega)]
        exact ⟨fun h => absurd (h i (Nat.le_refl _) (by omega) h3).1 a1, fun _ => rfl⟩
    · rw [if_neg h3]
      refine ⟨fun h => y fun j h1 h2 h3 => h j (by omega) h2 h3, fun ⟨j, b1, b2, b3, b4⟩ => n ⟨j, ?_, b2, b3, b4⟩⟩
      by_cases e : j = i
      · subst e; exact absurd b3 h3
      · omega
theorem ref_l0 (T : List S29) (hT : T.length ≤ 64) : ∀ (d k i : Nat), 1 ≤ i → i ≤ T.length → T.length - i = d → d + 500 < k →
    ((∀ j, i ≤ j → j < T.length → good T j) → catafalqueref01_Check.l0 k T (i : Int) = catafalqueref01_Check.l1 (k - d - 1) T 0) ∧
    ((∃ j, i ≤ j ∧ j < T.length ∧ ¬ good T j) → catafalqueref01_Check.l0 k T (i : Int) = some 2) := by
  intro d
  induction d with
  | zero =>
    intro k i h1 hi hd hk
    obtain ⟨k, rfl⟩ : ∃ m, k = m + 1 := ⟨k - 1, by omega⟩
    refine ⟨fun _ => ?_, fun ⟨j, h1, h2, _⟩ => by omega⟩
    simp only [catafalqueref01_Check.l0]
    rw [if_neg (by omega)]; rfl
  | succ d ih =>
    intro k i h1 hi hd hk
    obtain ⟨k, rfl⟩ : ∃ m, k = m + 1 := ⟨k - 1, by omega⟩
    obtain ⟨y, n⟩ := ih k (i + 1) (by omega) (by omega) (by omega) (by omega)
    have q1 : (i : Int) < (T.length : Int) := by omega
    have hw := wrap_nat i (by omega)
    have ek : k + 1 - (d + 1) - 1 = k - d - 1 := by omega
    rw [ek]
    have fail : ¬ good T i → ((∀ j, i ≤ j → j < T.length → good T j) → (some 2 : Option Int) = catafalqueref01_Check.l1 (k - d - 1) T 0) ∧ ((∃ j, i ≤ j ∧ j < T.length ∧ ¬ good T j) → (some 2 : Option Int) = some 2) :=
      fun hg => ⟨fun h => absurd (h i (Nat.le_refl _) (by omega)) hg, fun _ => rfl⟩
    simp only [catafalqueref01_Check.l0]
    rw [if_pos q1, if_pos (Int.natCast_nonneg i), rd_f0, rd_f1, hw]
    by_cases a1 : P T i < 0
    · rw [if_pos a1]; exact fail (fun g => by rcases g with ⟨rfl, _⟩ | ⟨_, g2, _⟩ <;> omega)
    · rw [if_neg a1]
      by_cases a2 : P T i ≥ i
      · rw [if_pos a2]; exact fail (fun g => by rcases g with ⟨rfl, _⟩ | ⟨_, _, g2, _⟩ <;> omega)
      · have e : P T i = (((P T i).toNat : Nat) : Int) := by omega
        have e2 : (rd_T29 T (P T i)).f1 = L T (P T i).toNat := by rw [e, rd_f1, Int.toNat_natCast]
        rw [if_neg a2, if_pos (by omega), if_pos (by omega), e2]
        by_cases a3 : L T i = wrap64 (L T (P T i).toNat + 1)
        · rw [if_pos a3]
          by_cases a4 : L T i > 3
          · rw [if_pos a4]; exact fail (fun g => by rcases g with ⟨rfl, _⟩ | ⟨_, _, _, _, g2⟩ <;> omega)
          · rw [if_neg a4]
            have hg : good T i := Or.inr ⟨by omega, by omega, by omega, a3, by omega⟩
            refine ⟨fun h => y fun j x1 x2 => h j (by omega) x2, fun ⟨j, b1, b2, b3⟩ => n ⟨j, ?_, b2, b3⟩⟩
            by_cases e : j = i
            · subst e; exact absurd hg b3
            · omega
        · rw [if_neg a3]; exact fail (fun g => by
            rcases g with ⟨rfl, _⟩ | ⟨_, _, _, g2, _⟩
            · omega
            · exact a3 g2)
/-- the document's words and the program's are one -/
theorem ref_ok (T : List S29) (h1 : 1 ≤ T.length) (h2 : T.length ≤ 64) (h3 : (sel (lev T 3) T.length).length ≤ 32) (h4 : P T 0 = -1) (h5 : L T 0 = 0) (h6 : ∀ j, 1 ≤ j → j < T.length → good T j)
    (h7 : ∀ j, j < T.length → L T j < 3 → 1 ≤ (sel (kid T j) T.length).length ∧ (sel (kid T j) T.length).length ≤ 8) : OKT T := by
  have G : ∀ i, i < T.length → good T i := by
    intro i hi
    by_cases e : i = 0
    · subst e; exact Or.inl ⟨rfl, h4, h5⟩
    · exact h6 i (by omega) hi
  refine ⟨h1, h2, h3, fun i hi => ⟨G i hi, ?_, ?_⟩⟩
  all_goals
    have none : L T i = 3 → (sel (kid T i) T.length).length = 0 := by
      intro e3
      rcases hs : sel (kid T i) T.length with _ | ⟨x, l⟩
      · rfl
      · have hm : x ∈ sel (kid T i) T.length := by rw [hs]; exact List.mem_cons_self
        rw [mem_sel] at hm
        obtain ⟨m1, m2, m3⟩ := hm
        unfold kid at m3
        simp only [decide_eq_true_eq] at m3
        by_cases e : x.toNat = 0
        · rw [e, h4] at m3; omega
        · have u := level_upG T G x.toNat (by omega) (by omega)
          have v := level_rangeG T G x.toNat (by omega)
          rw [m3, Int.toNat_natCast, e3] at u; omega
    have lr := level_rangeG T G i hi
  · exact ⟨none, fun e => by
      by_cases e3 : L T i = 3
      · exact e3
      · have := (h7 i hi (by omega)).1; omega⟩
  · by_cases e3 : L T i = 3
    · rw [none e3]; omega
    · exact (h7 i hi (by omega)).2
theorem ref_yes (k : Nat) (T : List S29) (h : OKT T) (hk : 2000 < k) : catafalqueref01_Check.f k T = some 0 := by
  obtain ⟨h1, h2, h3, h4⟩ := id h
  have r := root T h
  obtain ⟨k, rfl⟩ : ∃ m, k = m + 1 := ⟨k - 1, by omega⟩
  have q : (P T 0 = -1) := r.1
  have e0 : (rd_T29 T 0).f0 = P T 0 := rd_f0 T 0
  have e1 : (rd_T29 T 0).f1 = L T 0 := rd_f1 T 0
  unfold catafalqueref01_Check.f
  rw [if_neg (by omega), if_neg (by omega), catafalqueref01_Of_f _ T 3 (by omega) (by omega)]
  simp only [Option.bind_some]
  rw [if_neg (by omega), if_pos (by omega), e0, e1, if_pos q, r.2]
  simp only [catafalqueref01_Check.j0]
  rw [if_neg (by decide)]
  have l0 := (ref_l0 T h2 (T.length - 1) k 1 (Nat.le_refl _) h1 rfl (by omega)).1 (fun j a b => (h4 j b).1)
  have l1 := (ref_l1 T h2 T.length (k - (T.length - 1) - 1) 0 (Nat.zero_le _) (by omega) (by omega)).1 (fun j _ b c => by
    have cj := h4 j b
    refine ⟨?_, cj.2.2⟩
    have := cj.2.1
    unfold leaf at this
    by_cases e : (sel (kid T j) T.length).length = 0
    · have := this.2 e; omega
    · omega)
  exact l0.trans l1
theorem ref_no (k : Nat) (T : List S29) (h : ¬ OKT T) (hk : 2000 < k) : catafalqueref01_Check.f k T = some 2 := by
  obtain ⟨k, rfl⟩ : ∃ m, k = m + 1 := ⟨k - 1, by omega⟩
  have jt : ∀ x, catafalqueref01_Check.j0 (k + 1) x true = some 2 := fun x => by simp [catafalqueref01_Check.j0]
  have e0 : (rd_T29 T 0).f0 = P T 0 := rd_f0 T 0
  have e1 : (rd_T29 T 0).f1 = L T 0 := rd_f1 T 0
  unfold catafalqueref01_Check.f
  by_cases h1 : (T.length : Int) = 0
  · rw [if_pos h1]; exact jt _
  · rw [if_neg h1]
    by_cases h2 : (T.length : Int) > 64
    · rw [if_pos h2]; exact jt _
    · rw [if_neg h2, catafalqueref01_Of_f _ T 3 (by omega) (by omega)]
      simp only [Option.bind_some]
      by_cases h3 : ((sel (lev T 3) T.length).length : Int) > 32
      · rw [if_pos h3]; exact jt _
      · rw [if_neg h3, if_pos (by omega), e0, e1]
        by_cases h4 : P T 0 = -1
        · rw [if_pos h4]
          by_cases h5 : L T 0 = 0
          · rw [h5]
            simp only [catafalqueref01_Check.j0]
            rw [if_neg (by decide)]
            by_cases h6 : ∃ j, 1 ≤ j ∧ j < T.length ∧ ¬ good T j
            · exact (ref_l0 T (by omega) (T.length - 1) k 1 (Nat.le_refl _) (by omega) rfl (by omega)).2 h6
            · have g6 : ∀ j, 1 ≤ j → j < T.length → good T j := fun j a b => Classical.byContradiction fun c => h6 ⟨j, a, b, c⟩
              refine ((ref_l0 T (by omega) (T.length - 1) k 1 (Nat.le_refl _) (by omega) rfl (by omega)).1 g6).trans ?_
              refine (ref_l1 T (by omega) T.length (k - (T.length - 1) - 1) 0 (Nat.zero_le _) (by omega) (by omega)).2 ?_
              apply Classical.byContradiction
              intro hn
              refine h (ref_ok T (by omega) (by omega) (by omega) h4 h5 g6 (fun j a b => Classical.byContradiction fun c => hn ⟨j, Nat.zero_le _, a, b, c⟩))
          · have : (L T 0 != 0) = true := by simpa using h5
            rw [this]; exact jt _
        · rw [if_neg h4]; exact jt _
theorem up_same (T : List S29) (l : Int) : ∀ (m : Nat) (v : Int), v.toNat ≤ m → ∃ r, ∀ k, 3 * m + 10 ≤ k → topo_Up.l0 k T v l = some r ∧ catafalqueref01_Up.f k T v l = some r := by
  intro m
  induction m with
  | zero =>
    intro v hv
    by_cases hr : 0 ≤ v ∧ v < (T.length : Int)
    · obtain rfl : v = ((0 : Nat) : Int) := by omega
      have hlt : 0 < T.length := by omega
      refine ⟨if L T 0 = l then 0 else -1, fun k hk => ?_⟩
      obtain ⟨k, rfl⟩ : ∃ m, k = m + 4 := ⟨k - 4, by omega⟩
      constructor
      · rw [up_step T (k + 2) 0 l hlt]
        by_cases e : L T 0 = l
        · rw [if_pos e, if_pos e]; rfl
        · rw [if_neg e, if_neg e]
          by_cases e2 : P T 0 ≥ ((0 : Nat) : Int)
          · rw [if_pos e2]
          · have hneg : P T 0 < 0 := by
              have e3 : ((0 : Nat) : Int) = 0 := rfl
              rw [e3] at e2; omega
            rw [if_neg e2]; exact up_out T k (P T 0) l (Or.inl hneg)
      · have q : decide ((((0 : Nat) : Int)) ≥ (T.length : Int)) = false := decide_eq_false (by omega)
        have q2 : ((0 : Nat) : Int) < (T.length : Int) := by omega
        simp only [catafalqueref01_Up.f]
        rw [if_neg (by omega), q]
        simp only [catafalqueref01_Up.j0]
        rw [if_neg (by decide), if_pos (by omega), if_pos q2, rd_f1, rd_f0]
        by_cases e : L T 0 = l
        · rw [if_pos e, if_pos e]; rfl
        · rw [if_neg e, if_neg e]
          by_cases e2 : P T 0 ≥ ((0 : Nat) : Int)
          · rw [if_pos e2]
          · rw [if_neg e2]
            have hneg : P T 0 < 0 := by omega
            simp only [catafalqueref01_Up.f]
            rw [if_pos hneg]
            simp [catafalqueref01_Up.j0]
    · refine ⟨-1, fun k hk => ?_⟩
      obtain ⟨k, rfl⟩ : ∃ m, k = m + 2 := ⟨k - 2, by omega⟩
      refine ⟨up_out T k v l (by omega), ?_⟩
      simp only [catafalqueref01_Up.f]
      by_cases e : v < 0
      · rw [if_pos e]; simp [catafalqueref01_Up.j0]
      · have q : decide (v ≥ (T.length : Int)) = true := by simp; omega
        rw [if_neg e, q]; simp [catafalqueref01_Up.j0]
  | succ m ih =>
    intro v hv
    by_cases hm : v.toNat ≤ m
    · obtain ⟨r, hr⟩ := ih v hm
      exact ⟨r, fun k hk => hr k (by omega)⟩
    · by_cases hr : v < (T.length : Int)
      · obtain ⟨i, rfl⟩ : ∃ i : Nat, v = (i : Int) := ⟨v.toNat, by omega⟩
        have hlt : i < T.length := by omega
        have q : decide ((i : Int) ≥ (T.length : Int)) = false := by simp; omega
        have ref : ∀ k, catafalqueref01_Up.f (k + 2) T (i : Int) l = if L T i = l then some (i : Int) else if P T i ≥ (i : Int) then some (-1) else catafalqueref01_Up.f k T (P T i) l := by
          intro k
          simp only [catafalqueref01_Up.f]
          rw [if_neg (by omega), q]
          simp only [catafalqueref01_Up.j0]
          rw [if_neg (by decide), if_pos (by omega), if_pos (by omega), rd_f1, rd_f0, bind_id]
        by_cases e : L T i = l
        · refine ⟨(i : Int), fun k hk => ?_⟩
          obtain ⟨k, rfl⟩ : ∃ m, k = m + 2 := ⟨k - 2, by omega⟩
          rw [up_step T k i l hlt, ref k]; simp only [if_pos e, and_self]
        · by_cases e2 : P T i ≥ (i : Int)
          · refine ⟨-1, fun k hk => ?_⟩
            obtain ⟨k, rfl⟩ : ∃ m, k = m + 2 := ⟨k - 2, by omega⟩
            rw [up_step T k i l hlt, ref k]; simp only [if_neg e, if_pos e2, and_self]
          · obtain ⟨r, hr⟩ := ih (P T i) (by omega)
            refine ⟨r, fun k hk => ?_⟩
            obtain ⟨k, rfl⟩ : ∃ m, k = m + 2 := ⟨k - 2, by omega⟩
            rw [up_step T k i l hlt, ref k]; simp only [if_neg e, if_neg e2]
            exact hr k (by omega)
      · refine ⟨-1, fun k hk => ?_⟩
        obtain ⟨k, rfl⟩ : ∃ m, k = m + 2 := ⟨k - 2, by omega⟩
        have q : decide (v ≥ (T.length : Int)) = true := by simp; omega
        refine ⟨up_out T k v l (by omega), ?_⟩
        simp only [catafalqueref01_Up.f]
        rw [if_neg (by omega), q]; simp [catafalqueref01_Up.j0]
theorem TopoTells_f (T : List S29) (v l : Int) : ∃ k, catafalquelaw01_TopoTells.f k T v l = some true := by
  obtain ⟨r, hr⟩ := up_same T l v.toNat v (Nat.le_refl _)
  refine ⟨3 * v.toNat + 8000, ?_⟩
  have u := hr (3 * v.toNat + 8000) (by omega)
  have u1 : topo_Up.f (3 * v.toNat + 8000) T v l = some r := u.1
  unfold catafalquelaw01_TopoTells.f
  rw [shown_f _ (by omega)]
  simp only [Option.bind_some]
  by_cases h : (T.length : Int) > 200
  · rw [if_pos h]
  · rw [if_neg h]
    have hs : ∀ q, (sel q T.length).length ≤ T.length := fun q => sel_length q _
    have ch : ∃ c, topo_Check.f (3 * v.toNat + 8000) T = some c ∧ catafalqueref01_Check.f (3 * v.toNat + 8000) T = some c := by
      by_cases o : OKT T
      · exact ⟨0, check_yes _ T o (by omega), ref_yes _ T o (by omega)⟩
      · exact ⟨2, check_no _ T o (by omega), ref_no _ T o (by omega)⟩
    obtain ⟨c, c1, c2⟩ := ch
    have hk := hs (kid T v)
    have h3 := hs (lev T 3)
    have h1 := hs (lev T 1)
    rw [c1, c2, topo_Kids_f _ T v (by omega) (by omega), catafalqueref01_Kids_f _ T v (by omega) (by omega), procs_f _ T (by omega) (by omega), nodes_f _ T (by omega) (by omega), catafalqueref01_Of_f _ T 3 (by omega) (by omega), catafalqueref01_Of_f _ T 1 (by omega) (by omega), u1, u.2]
    simp only [Option.bind_some, if_true]
    rw [ints_same _ _ (by omega) (by omega), ints_same _ _ (by omega) (by omega), ints_same _ _ (by omega) (by omega)]
    simp
end Go.Proofs.Ytbcemjanpmbdeaa.Plain
