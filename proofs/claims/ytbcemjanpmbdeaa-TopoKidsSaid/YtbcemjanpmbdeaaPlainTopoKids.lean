/- The plain law TopoKids. -/
import Derived.Test.YtbcemjanpmbdeaaQTopox2
import Derived.Test.YtbcemjanpmbdeaaPlainTopo
namespace Go.Proofs.Ytbcemjanpmbdeaa.Plain
open Go Go.RowKit Go.Proofs.Ytbcemjanpmbdeaa.QTopo Go.Proofs.YtbcemjanpmbdeaaW.PrintWords Go.Proofs.YtbcemjanpmbdeaaW.PrintLast Go.Proofs.YtbcemjanpmbdeaaW.PrintMore

/-! ### the law on those below -/
/-- as many lie below the first m -/
def sum (T : List S29) : Nat → Nat
  | 0 => 0
  | m + 1 => sum T m + (sel (kid T m) T.length).length
def under (T : List S29) (m : Nat) (j : Nat) : Bool := decide (0 ≤ P T j ∧ P T j < m)
theorem count_succ (T : List S29) (m : Nat) : ∀ n, (sel (under T (m + 1)) n).length = (sel (under T m) n).length + (sel (kid T m) n).length
  | 0 => rfl
  | n + 1 => by
    have ih := count_succ T m n
    rw [sel_succ, sel_succ, sel_succ]
    by_cases h1 : P T n = m
    · have a : under T (m + 1) n = true := by unfold under; simp; omega
      have b : ¬ under T m n = true := by unfold under; simp; omega
      have c : kid T m n = true := by unfold kid; simpa using h1
      rw [if_pos a, if_neg b, if_pos c, List.length_append, List.length_append, ih]; simp; omega
    · have c : ¬ kid T m n = true := by unfold kid; simpa using h1
      rw [if_neg c]
      by_cases h2 : 0 ≤ P T n ∧ P T n < m
      · have a : under T (m + 1) n = true := by unfold under; simp; omega
        have b : under T m n = true := by unfold under; simp; omega
        rw [if_pos a, if_pos b, List.length_append, List.length_append, ih]; simp; omega
      · have a : ¬ under T (m + 1) n = true := by unfold under; simp; omega
        have b : ¬ under T m n = true := by unfold under; simp; omega
        rw [if_neg a, if_neg b, ih]
theorem sum_under (T : List S29) : ∀ m, sum T m = (sel (under T m) T.length).length
  | 0 => by
    unfold sum
    have : sel (under T 0) T.length = [] := by
      rcases hs : sel (under T 0) T.length with _ | ⟨x, l⟩
      · rfl
      · have hm : x ∈ sel (under T 0) T.length := by rw [hs]; exact List.mem_cons_self
        rw [mem_sel] at hm
        have := hm.2.2
        unfold under at this; simp at this; omega
    rw [this]; rfl
  | m + 1 => by unfold sum; rw [count_succ, sum_under T m]
theorem all_but (T : List S29) (h : OKT T) : ∀ n, n ≤ T.length → 0 < n → (sel (under T T.length) n).length = n - 1
  | 0, _, h0 => by omega
  | n + 1, hn, _ => by
    rw [sel_succ]
    by_cases e : n = 0
    · subst e
      have b : ¬ under T T.length 0 = true := by unfold under; rw [(root T h).1]; simp
      rw [if_neg b]; rfl
    · have ih := all_but T h n (by omega) (by omega)
      have u := level_up T h n (by omega) (by omega)
      have a : under T T.length n = true := by unfold under; simp; omega
      rw [if_pos a, List.length_append, ih]; simp; omega
theorem sum_all (T : List S29) (h : OKT T) : sum T T.length = T.length - 1 := by rw [sum_under, all_but T h _ (Nat.le_refl _) h.1]
theorem sum_le (T : List S29) (h : OKT T) : ∀ m, m ≤ T.length → sum T m ≤ 8 * m
  | 0, _ => Nat.le_refl _
  | m + 1, hm => by
    have := sum_le T h m (by omega)
    have := (h.2.2.2 m (by omega)).2.2
    unfold sum; omega
theorem kid_facts (T : List S29) (h : OKT T) (i : Nat) (x : Int) (hx : x ∈ sel (kid T i) T.length) : ∃ j : Nat, x = (j : Int) ∧ i < j ∧ j < T.length ∧ P T j = i := by
  rw [mem_sel] at hx
  obtain ⟨m1, m2, m3⟩ := hx
  unfold kid at m3
  simp only [decide_eq_true_eq] at m3
  refine ⟨x.toNat, by omega, ?_, by omega, m3⟩
  by_cases e : x.toNat = 0
  · rw [e, (root T h).1] at m3; omega
  · have := (level_up T h x.toNat (by omega) (by omega)).2.1; omega
theorem kids_l1 (T : List S29) (h : OKT T) (i s : Nat) (k0 : Nat) (hnext : ∀ k, k0 ≤ k → catafalquelaw01_TopoKids.l0 k T true (s : Int) (wrap64 ((i : Int) + 1)) = some true) : ∀ (d k j : Nat), j ≤ (sel (kid T i) T.length).length → (sel (kid T i) T.length).length - j = d → d + k0 < k →
    catafalquelaw01_TopoKids.l1 k T true (s : Int) (i : Int) (sel (kid T i) T.length) (j : Int) = some true := by
  have hl := sel_length (kid T i) T.length
  have hn := h.2.1
  intro d
  induction d with
  | zero =>
    intro k j hj hd hk
    obtain ⟨k, rfl⟩ : ∃ m, k = m + 1 := ⟨k - 1, by omega⟩
    simp only [catafalquelaw01_TopoKids.l1]
    rw [if_neg (by omega)]
    exact hnext k (by omega)
  | succ d ih =>
    intro k j hj hd hk
    obtain ⟨k, rfl⟩ : ∃ m, k = m + 1 := ⟨k - 1, by omega⟩
    have hlt : j < (sel (kid T i) T.length).length := by omega
    have hm : (sel (kid T i) T.length)[j] ∈ sel (kid T i) T.length := List.getElem_mem hlt
    obtain ⟨c, e1, e2, e3, e4⟩ := kid_facts T h i _ hm
    have hr : rd (sel (kid T i) T.length) (j : Int) = (c : Int) := by unfold rd; rw [Int.toNat_natCast, List.getD_eq_getElem?_getD, List.getElem?_eq_getElem hlt]; exact e1
    have q1 : (j : Int) < ((sel (kid T i) T.length).length : Int) := by omega
    have q2 : ¬ (c : Int) ≤ (i : Int) := by omega
    have q3 : ¬ (c : Int) ≥ (T.length : Int) := by omega
    have q4 : (c : Int) < (T.length : Int) := by omega
    have i1 := ih k (j + 1) (by omega) (by omega) (by omega)
    have hw := wrap_nat j (by omega)
    simp only [catafalquelaw01_TopoKids.l1]
    rw [if_pos q1, if_pos (Int.natCast_nonneg j), hr, if_neg q2, if_neg q3, if_pos (Int.natCast_nonneg c), if_pos q4, rd_f0, if_pos e4, hw]
    exact i1
set_option maxRecDepth 20000 in
theorem kids_l0 (T : List S29) (h : OKT T) : ∀ (d k i : Nat), i ≤ T.length → T.length - i = d → d * 100 + 500 < k → catafalquelaw01_TopoKids.l0 k T true ((sum T i : Nat) : Int) (i : Int) = some true := by
  have hn := h.2.1
  have hn0 := h.1
  intro d
  induction d with
  | zero =>
    intro k i hi hd hk
    obtain ⟨k, rfl⟩ : ∃ m, k = m + 1 := ⟨k - 1, by omega⟩
    obtain rfl : i = T.length := by omega
    have e1 : ((sum T T.length : Nat) : Int) = wrap64 ((T.length : Int) - 1) := by rw [sum_all T h]; unfold wrap64; omega
    simp only [catafalquelaw01_TopoKids.l0, if_true]
    rw [if_neg (by omega), if_pos e1]; simp; omega
  | succ d ih =>
    intro k i hi hd hk
    obtain ⟨k, rfl⟩ : ∃ m, k = m + 2 := ⟨k - 2, by omega⟩
    have hlt : i < T.length := by omega
    have hc := h.2.2.2 i hlt
    have hl := sum_le T h i hi
    have q1 : (i : Int) < (T.length : Int) := by omega
    have kf := topo_Kids_f (k + 1) T (i : Int) (by omega) (by omega)
    have e : ¬ ((((sel (kid T i) T.length).length : Int) == 0) != (L T i == 3)) = true := by
      have hl := hc.2.1
      unfold leaf at hl
      by_cases h3 : L T i = 3
      · have := hl.1 h3
        rw [beq_iff_eq.2 h3, beq_iff_eq.2 (show ((sel (kid T i) T.length).length : Int) = 0 by omega)]; decide
      · have h4 : ¬ (sel (kid T i) T.length).length = 0 := fun x => h3 (hl.2 x)
        rw [beq_eq_false_iff_ne.2 h3, beq_eq_false_iff_ne.2 (show ((sel (kid T i) T.length).length : Int) ≠ 0 by omega)]; decide
    have h8 := hc.2.2
    have q9 : (sel (kid T i) T.length).length + (d * 100 + 501) < k := by clear e hl kf; omega
    have hs : wrap64 (((sum T i : Nat) : Int) + ((sel (kid T i) T.length).length : Int)) = ((sum T (i + 1) : Nat) : Int) := by
      show _ = ((sum T i + (sel (kid T i) T.length).length : Nat) : Int)
      unfold wrap64; omega
    have hnext : ∀ k', d * 100 + 501 ≤ k' → catafalquelaw01_TopoKids.l0 k' T true ((sum T (i + 1) : Nat) : Int) (wrap64 ((i : Int) + 1)) = some true := by
      intro k' hk'
      rw [wrap_nat i (by omega)]
      exact ih k' (i + 1) (by omega) (by omega) (by omega)
    have l1 := kids_l1 T h i (sum T (i + 1)) (d * 100 + 501) hnext (sel (kid T i) T.length).length k 0 (Nat.zero_le _) (Nat.sub_zero _) q9
    have q8 : decide (((sel (kid T i) T.length).length : Int) > 8) = false := by simp; omega
    simp only [catafalquelaw01_TopoKids.l0]
    rw [if_pos q1, kf]
    simp only [Option.bind_some]
    rw [if_pos (Int.natCast_nonneg i), rd_f1, if_neg e, hs, q8]
    simp only [catafalquelaw01_TopoKids.j1]
    exact l1
theorem TopoKids_f (T : List S29) : catafalquelaw01_TopoKids.f 8000 T = some true := by
  unfold catafalquelaw01_TopoKids.f
  rw [shown_f 8000 (by omega)]
  simp only [Option.bind_some]
  by_cases h : OKT T
  · have := h.2.1
    rw [check_yes 8000 T h (by omega)]
    simp only [Option.bind_some, if_true]
    exact kids_l0 T h T.length 8000 0 (Nat.zero_le _) (by omega) (by omega)
  · rw [check_no 8000 T h (by omega)]; rfl
end Go.Proofs.Ytbcemjanpmbdeaa.Plain
