/- The plain law TopoAbove. -/
import Derived.Test.YtbcemjanpmbdeaaQTopox4
import Derived.Test.YtbcemjanpmbdeaaPlainTopo
namespace Go.Proofs.Ytbcemjanpmbdeaa.Plain
open Go Go.RowKit Go.Proofs.Ytbcemjanpmbdeaa.QTopo Go.Proofs.YtbcemjanpmbdeaaW.PrintWords Go.Proofs.YtbcemjanpmbdeaaW.PrintLast Go.Proofs.YtbcemjanpmbdeaaW.PrintMore

/-! ### the law on those above -/
/-- one step of the way up -/
theorem up_step (T : List S29) (k i : Nat) (l : Int) (hi : i < T.length) :
    topo_Up.l0 (k + 2) T (i : Int) l = if L T i = l then some (i : Int) else if P T i ≥ (i : Int) then some (-1) else topo_Up.l0 k T (P T i) l := by
  have q1 : (i : Int) ≥ 0 := Int.natCast_nonneg i
  have q2 : decide ((i : Int) < (T.length : Int)) = true := by simpa using hi
  have q3 : (i : Int) < (T.length : Int) := by omega
  simp only [topo_Up.l0]
  rw [if_pos q1, q2]
  simp only [topo_Up.j1, if_true]
  rw [if_pos q3, rd_f1, rd_f0]
  simp only [if_pos (Int.natCast_nonneg i)]
theorem up_out (T : List S29) (k : Nat) (v l : Int) (h : v < 0 ∨ v ≥ (T.length : Int)) : topo_Up.l0 (k + 2) T v l = some (-1) := by
  simp only [topo_Up.l0]
  by_cases h0 : v ≥ 0
  · have q2 : decide (v < (T.length : Int)) = false := by simp; omega
    rw [if_pos h0, q2]; simp [topo_Up.j1]
  · rw [if_neg h0]; simp [topo_Up.j1]
theorem up_tree (T : List S29) (h : OKT T) (l : Int) (hl : 0 ≤ l) : ∀ i, i < T.length → ∀ k, 2 * i + 10 ≤ k →
    (l > L T i → topo_Up.l0 k T (i : Int) l = some (-1)) ∧ (l ≤ L T i → ∃ v : Nat, topo_Up.l0 k T (i : Int) l = some (v : Int) ∧ v ≤ i ∧ L T v = l) := by
  intro i
  induction i using Nat.strongRecOn with
  | ind i ih =>
    intro hi k hk
    obtain ⟨k, rfl⟩ : ∃ m, k = m + 2 := ⟨k - 2, by omega⟩
    have st := up_step T k i l hi
    by_cases e : L T i = l
    · rw [if_pos e] at st
      exact ⟨fun x => by omega, fun _ => ⟨i, st, Nat.le_refl _, e⟩⟩
    · rw [if_neg e] at st
      by_cases e0 : i = 0
      · subst e0
        have r := root T h
        rw [r.1, if_neg (by omega)] at st
        obtain ⟨k', rfl⟩ : ∃ m, k = m + 2 := ⟨k - 2, by omega⟩
        rw [up_out T k' (-1) l (Or.inl (by omega))] at st
        exact ⟨fun _ => st, fun x => by rw [r.2] at x e; omega⟩
      · have u := level_up T h i hi (by omega)
        have u1 := u.1
        have u2 := u.2.1
        have u3 := u.2.2
        rw [if_neg (by omega)] at st
        have ec : P T i = (((P T i).toNat : Nat) : Int) := by omega
        have r := ih (P T i).toNat (by omega) (by omega) k (by omega)
        rw [← ec, ← st] at r
        refine ⟨fun x => r.1 (by omega), fun x => ?_⟩
        obtain ⟨v, v1, v2, v3⟩ := r.2 (by omega)
        exact ⟨v, v1, by omega, v3⟩
theorem up_root (T : List S29) (h : OKT T) (i : Nat) (hi : i < T.length) (k : Nat) (hk : 2 * i + 10 ≤ k) : topo_Up.f k T (i : Int) 0 = some 0 := by
  have r := (up_tree T h 0 (by omega) i hi k hk).2 (level_range T h i hi).1
  obtain ⟨v, v1, v2, v3⟩ := r
  have : v = 0 := by
    by_cases e : v = 0
    · exact e
    · have u := (level_up T h v (by omega) (by omega)).2.2
      have w := (level_up T h v (by omega) (by omega))
      have := level_range T h (P T v).toNat (by omega)
      omega
  subst this
  exact v1
theorem up_self (T : List S29) (i : Nat) (hi : i < T.length) (k : Nat) (hk : 2 ≤ k) : topo_Up.f k T (i : Int) (L T i) = some (i : Int) := by
  obtain ⟨k, rfl⟩ : ∃ m, k = m + 2 := ⟨k - 2, by omega⟩
  unfold topo_Up.f
  rw [up_step T k i _ hi, if_pos rfl]
theorem last_proc (T : List S29) (h : OKT T) : L T (T.length - 1) = 3 := by
  have h0 := h.1
  have hc := (h.2.2.2 (T.length - 1) (by omega)).2.1
  unfold leaf at hc
  refine hc.2 ?_
  rcases hs : sel (kid T ((T.length - 1 : Nat) : Int)) T.length with _ | ⟨x, l⟩
  · rfl
  · have hm : x ∈ sel (kid T ((T.length - 1 : Nat) : Int)) T.length := by rw [hs]; exact List.mem_cons_self
    rw [mem_sel] at hm
    obtain ⟨m1, m2, m3⟩ := hm
    unfold kid at m3
    simp only [decide_eq_true_eq] at m3
    by_cases e : x.toNat = 0
    · rw [e, (root T h).1] at m3; omega
    · have := (level_up T h x.toNat (by omega) (by omega)).2.1; omega
theorem sel_pos (q : Nat → Bool) (n i : Nat) (hi : i < n) (h : q i = true) : 1 ≤ (sel q n).length := by
  have hm : (i : Int) ∈ sel q n := by rw [mem_sel]; exact ⟨Int.natCast_nonneg i, by omega, by rw [Int.toNat_natCast]; exact h⟩
  exact List.length_pos_of_mem hm
theorem above_end (T : List S29) (h : OKT T) : 1 ≤ (sel (lev T 3) T.length).length ∧ 1 ≤ (sel (lev T 1) T.length).length := by
  have h0 := h.1
  have h3 := last_proc T h
  refine ⟨sel_pos _ _ (T.length - 1) (by omega) (by unfold lev; simpa using h3), ?_⟩
  obtain ⟨v, _, v2, v3⟩ := (up_tree T h 1 (by omega) (T.length - 1) (by omega) (2 * (T.length - 1) + 10) (Nat.le_refl _)).2 (by omega)
  exact sel_pos _ _ v (by omega) (by unfold lev; simpa using v3)
theorem above_l1 (T : List S29) (h : OKT T) (i : Nat) (hi : i < T.length) (k0 : Nat) (hk0 : 300 ≤ k0) (hnext : ∀ k, k0 ≤ k → catafalquelaw01_TopoAbove.l0 k T true (wrap64 ((i : Int) + 1)) = some true) : ∀ (d k l : Nat), l ≤ 4 → 4 - l = d → d + k0 < k →
    catafalquelaw01_TopoAbove.l1 k T true (i : Int) (l : Int) = some true := by
  have hn := h.2.1
  intro d
  induction d with
  | zero =>
    intro k l hl hd hk
    obtain ⟨k, rfl⟩ : ∃ m, k = m + 1 := ⟨k - 1, by omega⟩
    have q1 : ¬ (l : Int) ≤ 3 := by omega
    have q2 : (i : Int) < (T.length : Int) := by omega
    simp only [catafalquelaw01_TopoAbove.l1]
    rw [if_neg q1, up_root T h i hi k (by omega)]
    simp only [Option.bind_some, if_true]
    rw [if_pos (Int.natCast_nonneg i), if_pos q2, rd_f1, up_self T i hi k (by omega)]
    simp only [Option.bind_some, if_true]
    exact hnext k (by omega)
  | succ d ih =>
    intro k l hl hd hk
    obtain ⟨k, rfl⟩ : ∃ m, k = m + 1 := ⟨k - 1, by omega⟩
    have q1 : (l : Int) ≤ 3 := by omega
    have q2 : (i : Int) < (T.length : Int) := by omega
    have i1 := ih k (l + 1) (by omega) (by omega) (by omega)
    have hw := wrap_nat l (by omega)
    have r := up_tree T h (l : Int) (by omega) i hi k (by omega)
    have lr := level_range T h i hi
    simp only [catafalquelaw01_TopoAbove.l1]
    rw [if_pos q1]
    by_cases e : (l : Int) > L T i
    · have e2 : ¬ (l : Int) ≤ L T i := by omega
      have u : topo_Up.f k T (i : Int) (l : Int) = some (-1) := r.1 e
      rw [u]
      simp only [Option.bind_some]
      rw [if_pos (Int.natCast_nonneg i), if_pos q2, rd_f1, if_pos e, if_pos trivial, if_neg e2, hw]
      exact i1
    · have e2 : (l : Int) ≤ L T i := by omega
      obtain ⟨v, v1, v2, v3⟩ := r.2 e2
      have u : topo_Up.f k T (i : Int) (l : Int) = some (v : Int) := v1
      have q3 : ¬ (v : Int) < 0 := by omega
      have q4 : ¬ (v : Int) > (i : Int) := by omega
      have q5 : (v : Int) < (T.length : Int) := by omega
      rw [u]
      simp only [Option.bind_some]
      rw [if_pos (Int.natCast_nonneg i), if_pos q2, rd_f1, if_neg e, if_pos e2, if_neg q3, if_neg q4, if_pos (Int.natCast_nonneg v), if_pos q5, rd_f1, if_pos v3, hw]
      exact i1
set_option maxRecDepth 20000 in
theorem above_l0 (T : List S29) (h : OKT T) : ∀ (d k i : Nat), i ≤ T.length → T.length - i = d → d * 100 + 500 < k → catafalquelaw01_TopoAbove.l0 k T true (i : Int) = some true := by
  have hn := h.2.1
  have hn0 := h.1
  intro d
  induction d with
  | zero =>
    intro k i hi hd hk
    obtain ⟨k, rfl⟩ : ∃ m, k = m + 1 := ⟨k - 1, by omega⟩
    have q1 : ¬ (i : Int) < (T.length : Int) := by omega
    have e := above_end T h
    have q2 : ((sel (lev T 3) T.length).length : Int) ≥ 1 := by omega
    simp only [catafalquelaw01_TopoAbove.l0, if_true]
    rw [if_neg q1, procs_f k T (by omega) (by omega)]
    simp only [Option.bind_some]
    rw [if_pos q2, nodes_f k T (by omega) (by omega)]
    simp; omega
  | succ d ih =>
    intro k i hi hd hk
    obtain ⟨k, rfl⟩ : ∃ m, k = m + 1 := ⟨k - 1, by omega⟩
    have q1 : (i : Int) < (T.length : Int) := by omega
    simp only [catafalquelaw01_TopoAbove.l0]
    rw [if_pos q1]
    refine above_l1 T h i (by omega) (d * 100 + 501) (by omega) (fun k' hk' => ?_) 4 k 0 (by omega) (by omega) (by omega)
    rw [wrap_nat i (by omega)]
    exact ih k' (i + 1) (by omega) (by omega) (by omega)
theorem TopoAbove_f (T : List S29) : catafalquelaw01_TopoAbove.f 8000 T = some true := by
  unfold catafalquelaw01_TopoAbove.f
  rw [shown_f 8000 (by omega)]
  simp only [Option.bind_some]
  by_cases h : OKT T
  · have := h.2.1
    rw [check_yes 8000 T h (by omega)]
    simp only [Option.bind_some, if_true]
    exact above_l0 T h T.length 8000 0 (Nat.zero_le _) (by omega) (by omega)
  · rw [check_no 8000 T h (by omega)]; rfl
end Go.Proofs.Ytbcemjanpmbdeaa.Plain
