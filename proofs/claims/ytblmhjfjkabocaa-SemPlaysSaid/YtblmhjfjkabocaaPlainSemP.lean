/- Semaphores, plainly. -/
import Derived.Test.YtblmhjfjkabocaaQSemPx1
import Derived.Test.YtblmhjfjkabocaaQSemPx2
namespace Go.Proofs.Ytblmhjfjkabocaa.Pure
open Go Go.RowKit Go.Proofs.Ytblmhjfjkabocaa.QSemP Go.Proofs.YtblmhjfjkabocaaW.PrintWords Go.Proofs.YtblmhjfjkabocaaW.PrintLast Go.Proofs.YtblmhjfjkabocaaW.PrintMore
/-! ### semaphores, plainly -/
theorem clone_f (l : List Int) (h : l.length < 1000000) : slices_Clone_int_int.f l = some l := by
  unfold slices_Clone_int_int.f
  simp only [Option.bind_some, List.length_nil, List.nil_append]
  rw [if_pos (by omega)]
theorem acquire_some (c : Int) (l : List Int) (g : Int) (h : 0 < c) (hc : c ≤ 1000000) (hl : l.length < 1000000) : sem_Acquire.f c l g = some (c - 1, l, true) := by
  unfold sem_Acquire.f
  rw [if_pos h, clone_f l hl, show wrap64 (c - 1) = c - 1 from by unfold wrap64; omega]; rfl
theorem acquire_none (c : Int) (l : List Int) (g : Int) (h : ¬ 0 < c) (hl : l.length < 999999) : sem_Acquire.f c l g = some (c, l ++ [g], false) := by
  unfold sem_Acquire.f
  rw [if_neg h, clone_f l (by omega)]
  simp only [Option.bind_some, List.length_singleton]
  rw [if_pos (by omega)]
theorem release_wait (c : Int) (x : Int) (l : List Int) (hl : l.length < 999999) : sem_Release.f c (x :: l) = some (c, l, x) := by
  unfold sem_Release.f
  have q : ((x :: l).length : Int) > 0 := by rw [List.length_cons]; omega
  rw [if_pos q, if_pos (by omega), List.drop_one, List.tail_cons, clone_f l (by omega)]
  simp only [Option.bind_some]
  rw [if_pos q]; rfl
theorem release_none (c : Int) (h : c < 1000000) (h0 : 0 ≤ c) : sem_Release.f c [] = some (c + 1, [], 0) := by
  unfold sem_Release.f
  rw [if_neg (by simp), if_neg (by omega), show wrap64 (c + 1) = c + 1 from by unfold wrap64; omega]
theorem wrap_nat (i : Nat) (h : i < 17592186044416) : wrap64 ((i : Int) + 1) = ((i + 1 : Nat) : Int) := by unfold wrap64; omega
theorem rd_nat (l : List Int) (i : Nat) : rd l (i : Int) = l.getD i 0 := by unfold rd; rw [Int.toNat_natCast]
theorem index_l (l : List Int) (x : Int) (hl : l.length < 1000000) : ∀ (d k i : Nat), i ≤ l.length → l.length - i = d → d < k →
    (x ∈ l.drop i → ∃ j : Nat, slices_Index_int_int.l0 k l x (l.length : Int) (i : Int) = some (j : Int)) ∧ (x ∉ l.drop i → slices_Index_int_int.l0 k l x (l.length : Int) (i : Int) = some (-1)) := by
  intro d
  induction d with
  | zero =>
    intro k i hi hd hk
    obtain ⟨k, rfl⟩ : ∃ m, k = m + 1 := ⟨k - 1, by omega⟩
    have e : l.drop i = [] := List.drop_of_length_le (by omega)
    rw [e]
    refine ⟨fun h => by simp at h, fun _ => ?_⟩
    simp only [slices_Index_int_int.l0]
    rw [if_neg (by omega)]
  | succ d ih =>
    intro k i hi hd hk
    obtain ⟨k, rfl⟩ : ∃ m, k = m + 1 := ⟨k - 1, by omega⟩
    have hlt : i < l.length := by omega
    have q1 : (i : Int) < (l.length : Int) := by omega
    obtain ⟨y, n⟩ := ih k (i + 1) (by omega) (by omega) (by omega)
    have e : l.drop i = l[i] :: l.drop (i + 1) := List.drop_eq_getElem_cons hlt
    have r : rd l (i : Int) = l[i] := by rw [rd_nat, List.getD_eq_getElem?_getD, List.getElem?_eq_getElem hlt]; rfl
    rw [e]
    simp only [slices_Index_int_int.l0]
    rw [if_pos q1, if_pos (Int.natCast_nonneg i), if_pos q1, r, wrap_nat i (by omega)]
    by_cases h : x = l[i]
    · rw [if_pos h]
      exact ⟨fun _ => ⟨i, rfl⟩, fun hn => absurd (by rw [h]; exact List.mem_cons_self) hn⟩
    · rw [if_neg h]
      exact ⟨fun hm => y (by rcases List.mem_cons.1 hm with hm | hm; exact absurd hm h; exact hm), fun hn => n (fun hm => hn (List.mem_cons_of_mem _ hm))⟩
theorem contains_f (k : Nat) (l : List Int) (x : Int) (hl : l.length < 1000000) (hk : l.length < k) : slices_Contains_int_int.f k l x = some (decide (x ∈ l)) := by
  obtain ⟨y, n⟩ := index_l l x hl l.length k 0 (Nat.zero_le _) (by omega) hk
  rw [List.drop_zero] at y n
  unfold slices_Contains_int_int.f slices_Index_int_int.f
  by_cases h : x ∈ l
  · obtain ⟨j, hj⟩ := y h
    rw [show slices_Index_int_int.l0 k l x (l.length : Int) 0 = some (j : Int) from hj]
    simp only [Option.bind_some]
    rw [decide_eq_true h, decide_eq_true (Int.natCast_nonneg j)]
  · rw [show slices_Index_int_int.l0 k l x (l.length : Int) 0 = some (-1) from n h]
    simp only [Option.bind_some]
    rw [decide_eq_false h]; rfl
theorem ints_l (a : List Int) (ha : a.length < 1000000) : ∀ (d k i : Nat), i ≤ a.length → a.length - i = d → d < k → catafalqueref01_Ints.l0 k a a (i : Int) = some true := by
  intro d
  induction d with
  | zero =>
    intro k i hi hd hk
    obtain ⟨k, rfl⟩ : ∃ m, k = m + 1 := ⟨k - 1, by omega⟩
    simp only [catafalqueref01_Ints.l0]
    rw [if_neg (by omega)]
  | succ d ih =>
    intro k i hi hd hk
    obtain ⟨k, rfl⟩ : ∃ m, k = m + 1 := ⟨k - 1, by omega⟩
    have q1 : (i : Int) < (a.length : Int) := by omega
    have i1 := ih k (i + 1) (by omega) (by omega) (by omega)
    simp only [catafalqueref01_Ints.l0]
    rw [if_pos q1, if_pos (Int.natCast_nonneg i), if_pos q1, if_pos trivial, wrap_nat i (by omega)]
    exact i1
theorem ints_same (k : Nat) (a : List Int) (ha : a.length < 1000000) (hk : a.length < k) : catafalqueref01_Ints.f k a a = some true := by
  unfold catafalqueref01_Ints.f
  rw [if_pos rfl]
  exact ints_l a ha a.length k 0 (Nat.zero_le _) (by omega) hk
theorem once_l (l : List Int) (hl : l.length < 700) (hnd : l.Nodup) : ∀ (d k i : Nat), i ≤ l.length → l.length - i = d → d + 1000 < k → sem_once_int.l0 k l l (l.length : Int) (i : Int) = some true := by
  intro d
  induction d with
  | zero =>
    intro k i hi hd hk
    obtain ⟨k, rfl⟩ : ∃ m, k = m + 1 := ⟨k - 1, by omega⟩
    rw [sem_once_int.l0, if_neg (by omega)]
  | succ d ih =>
    intro k i hi hd hk
    obtain ⟨k, rfl⟩ : ∃ m, k = m + 1 := ⟨k - 1, by omega⟩
    have hlt : i < l.length := by omega
    have q1 : (i : Int) < (l.length : Int) := by omega
    have q2 : (i : Int) ≤ (l.length : Int) := by omega
    have r : rd l (i : Int) = l[i] := by rw [rd_nat, List.getD_eq_getElem?_getD, List.getElem?_eq_getElem hlt]; rfl
    have hn : l[i] ∉ l.take i := by
      intro hm
      obtain ⟨j, hj, e⟩ := List.getElem_of_mem hm
      rw [List.length_take] at hj
      rw [List.getElem_take] at e
      exact List.pairwise_iff_getElem.1 hnd j i (by omega) hlt (by omega) e
    have i1 := ih k (i + 1) (by omega) (by omega) (by omega)
    rw [sem_once_int.l0, if_pos q1, if_pos (Int.natCast_nonneg i), if_pos q1, if_pos q2, r, Int.toNat_natCast, contains_f k (l.take i) l[i] (by rw [List.length_take]; omega) (by rw [List.length_take]; omega)]
    simp only [Option.bind_some]
    rw [decide_eq_false hn, if_neg (by decide), wrap_nat i (by omega)]
    exact i1
theorem idx_pos : ∀ (l : List Int) (i : Int), (∀ x ∈ l, 0 < x) → idx l i = -1
  | [], _, _ => rfl
  | x :: l, i, h => by
    have := h x List.mem_cons_self
    unfold idx
    rw [if_neg (by omega)]
    exact idx_pos l (i + 1) fun y hy => h y (List.mem_cons_of_mem _ hy)
theorem may_yes (k : Nat) (c : Int) (l : List Int) (hk : 3000 < k) (h0 : 0 ≤ c) (h1 : c ≤ 1000000) (hw : 0 < c → l = []) (hl : l.length < 700) (hpos : ∀ x ∈ l, 0 < x) (hnd : l.Nodup) : sem_May.f k c l = some true := by
  have ho : sem_once_int.f k l = some true := once_l l hl hnd l.length k 0 (Nat.zero_le _) (by omega) (by omega)
  have hi := idx_pos l 0 hpos
  unfold sem_May.f
  rw [if_neg (by omega), if_neg (by omega), ho, hi]
  by_cases h : c > 0
  · have := hw h
    subst this
    rw [if_pos h]; rfl
  · rw [if_neg h]; rfl
theorem u8_mod {a : Int} (h : (Lit.int .u8 a).wf = true) (m : Nat) (hm : 0 < m) (hm2 : m < 300) : ∃ r : Nat, r < m ∧ wrap64 (Int.tmod a (m : Int)) = (r : Int) := by
  simp only [Lit.wf, Bool.and_eq_true, decide_eq_true_eq] at h
  have e1 : IntKind.u8.min = 0 := by decide
  have e2 : IntKind.u8.max = 255 := by decide
  rw [e1, e2] at h
  obtain ⟨n, rfl⟩ : ∃ n : Nat, a = (n : Int) := ⟨a.toNat, by omega⟩
  have hl := Nat.mod_lt n hm
  have e : Int.tmod (n : Int) (m : Int) = ((n % m : Nat) : Int) := rfl
  refine ⟨n % m, hl, ?_⟩
  rw [e]
  generalize n % m = r at hl
  unfold wrap64; omega
theorem shown_f : catafalquelaw10_shown.f = some true := by decide +kernel
end Go.Proofs.Ytblmhjfjkabocaa.Pure
