/- The plain law TopoBounds. -/
import Derived.Test.YtbcemjanpmbdeaaQTopox3
import Derived.Test.YtbcemjanpmbdeaaPlainTopo
namespace Go.Proofs.Ytbcemjanpmbdeaa.Plain
open Go Go.RowKit Go.Proofs.Ytbcemjanpmbdeaa.QTopo Go.Proofs.YtbcemjanpmbdeaaW.PrintWords Go.Proofs.YtbcemjanpmbdeaaW.PrintLast Go.Proofs.YtbcemjanpmbdeaaW.PrintMore

/-! ### the laws -/
theorem tmod_ok (a : Int) (n : Nat) (h0 : 0 ≤ a) (h1 : a ≤ 255) (hn : 0 < n) : 0 ≤ Int.tmod (wrap64 a) (n : Int) ∧ Int.tmod (wrap64 a) (n : Int) < n := by
  have : wrap64 a = ((a.toNat : Nat) : Int) := by unfold wrap64; omega
  rw [this]
  have e : Int.tmod ((a.toNat : Nat) : Int) (n : Int) = ((a.toNat % n : Nat) : Int) := rfl
  rw [e]
  have := Nat.mod_lt a.toNat hn
  omega
theorem not_ok_long (T : List S29) (h : 64 < T.length) : ¬ OKT T := fun x => by have := x.2.1; omega
theorem not_ok_nil : ¬ OKT [] := fun x => by have := x.1; simp at this
theorem bounds_l (T : List S29) (h : OKT T) (a : Int) (h0 : 0 ≤ a) (h1 : a ≤ 255) : ∀ (d k i : Nat) (y : List S29), i ≤ 65 → 65 - i = d → y.length = T.length + i → d + 500 < k →
    catafalquelaw01_TopoBounds.l0 k T a true y (i : Int) = some true := by
  have ht := tmod_ok a T.length h0 h1 h.1
  have hn0 := h.1
  have hn1 := h.2.1
  intro d
  induction d with
  | zero =>
    intro k i y hi hd hy hk
    obtain ⟨k, rfl⟩ : ∃ m, k = m + 1 := ⟨k - 1, by omega⟩
    have q1 : ¬ (i : Int) < 65 := by omega
    have q2 : (1 : Int) ≤ (T.length : Int) := by omega
    have q3 : ([] : List S29).length + (T.drop 1).length < 8796093022208 := by rw [List.length_drop]; simp; omega
    have q4 : (0 : Int) ≤ (T.length : Int) := by omega
    have hd1 : ¬ OKT (T.drop 1) := by
      intro x
      have r := root _ x
      have hlt : 1 < T.length := by have := x.1; rw [List.length_drop] at this; omega
      have e : P (T.drop 1) 0 = P T 1 := by unfold P; rw [List.getD_eq_getElem?_getD, List.getD_eq_getElem?_getD, List.getElem?_drop]
      have := (level_up T h 1 hlt (by omega)).1
      rw [← e, r.1] at this; omega
    have hz : sel (kid T (T.length : Int)) T.length = [] := by
      rcases hs : sel (kid T (T.length : Int)) T.length with _ | ⟨x, l⟩
      · rfl
      · have hm : x ∈ sel (kid T (T.length : Int)) T.length := by rw [hs]; exact List.mem_cons_self
        rw [mem_sel] at hm
        obtain ⟨m1, m2, m3⟩ := hm
        unfold kid at m3
        simp only [decide_eq_true_eq] at m3
        by_cases e : x.toNat = 0
        · rw [e, (root T h).1] at m3; omega
        · have := (level_up T h x.toNat (by omega) (by omega)).2.1; omega
    simp only [catafalquelaw01_TopoBounds.l0]
    rw [if_neg q1]
    simp only [Option.bind_some]
    rw [if_pos q2, if_pos q3, check_no k y (not_ok_long y (by omega)) (by omega)]
    simp only [Option.bind_some, if_true, List.nil_append]
    rw [check_no k (T.drop 1) hd1 (by omega)]
    simp only [Option.bind_some, if_true]
    rw [if_pos q4, List.take_zero, check_no k [] not_ok_nil (by omega)]
    simp only [Option.bind_some, if_true]
    rw [topo_Kids_f k T (T.length : Int) (by omega) (by omega), hz]
    rfl
  | succ d ih =>
    intro k i y hi hd hy hk
    obtain ⟨k, rfl⟩ : ∃ m, k = m + 1 := ⟨k - 1, by omega⟩
    have q1 : (i : Int) < 65 := by omega
    have q2 : ¬ (T.length : Int) = 0 := by omega
    have q3 : y.length < 8796093022208 := by omega
    have hw := wrap_nat i (by omega)
    have i1 := fun v => ih k (i + 1) (y ++ [v]) (by omega) (by omega) (by rw [List.length_append, List.length_singleton]; omega) (by omega)
    simp only [catafalquelaw01_TopoBounds.l0]
    rw [if_pos q1, if_neg q2, if_pos ht.1, if_pos ht.2, if_pos q3, hw]
    exact i1 _
theorem TopoBounds_f (T : List S29) (a : Int) (h0 : 0 ≤ a) (h1 : a ≤ 255) : catafalquelaw01_TopoBounds.f 1000 T a = some true := by
  unfold catafalquelaw01_TopoBounds.f
  rw [shown_f 1000 (by omega)]
  simp only [Option.bind_some]
  by_cases h : OKT T
  · have q : ([] : List S29).length + T.length < 8796093022208 := by have := h.2.1; simp; omega
    rw [check_yes 1000 T h (by omega)]
    simp only [Option.bind_some, if_true]
    rw [if_pos q, List.nil_append]
    exact bounds_l T h a h0 h1 65 1000 0 T (by omega) (by omega) (by omega) (by omega)
  · rw [check_no 1000 T h (by omega)]; rfl
end Go.Proofs.Ytbcemjanpmbdeaa.Plain
