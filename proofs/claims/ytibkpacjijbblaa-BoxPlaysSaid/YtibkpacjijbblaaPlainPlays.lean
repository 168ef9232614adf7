/- Mailboxes, plainly, for the law BoxPlays. -/
import Derived.Test.YtibkpacjijbblaaQPlaysx3
import Derived.Test.YtibkpacjijbblaaQPlaysx4
namespace Go.Proofs.Ytibkpacjijbblaa.Pure
open Go Go.RowKit Go.Proofs.Ytibkpacjijbblaa.QPlays Go.Proofs.YtibkpacjijbblaaW.PrintWords Go.Proofs.YtibkpacjijbblaaW.PrintLast Go.Proofs.YtibkpacjijbblaaW.PrintMore
/-! ### mailboxes, plainly -/
theorem wrap_nat (i : Nat) (h : i < 17592186044416) : wrap64 ((i : Int) + 1) = ((i + 1 : Nat) : Int) := by unfold wrap64; omega
theorem rd_nat (l : List Int) (i : Nat) : rd l (i : Int) = l.getD i 0 := by unfold rd; rw [Int.toNat_natCast]
theorem clone_f (l : List Int) (h : l.length < 1000000) : slices_Clone_int_int.f l = some l := by
  unfold slices_Clone_int_int.f
  simp only [Option.bind_some, List.length_nil, List.nil_append]
  rw [if_pos (by omega)]
theorem clone64_f (l : List Int) (h : l.length < 1000000) : slices_Clone_int64_int64.f l = some l := by
  unfold slices_Clone_int64_int64.f
  simp only [Option.bind_some, List.length_nil, List.nil_append]
  rw [if_pos (by omega)]
theorem cloneM_f (l : List S65) (h : l.length < 1000000) : box_Mail_36.f l = some l := by
  unfold box_Mail_36.f
  simp only [Option.bind_some, List.length_nil, List.nil_append]
  rw [if_pos (by omega)]
theorem first_f (x : Int) (l : List Int) (h : l.length < 999999) : box_first_int.f (x :: l) = some (x, l) := by
  unfold box_first_int.f
  rw [if_pos (by rw [List.length_cons]; omega), if_pos (by rw [List.length_cons]; omega), List.drop_one, List.tail_cons, clone_f l (by omega)]; rfl
theorem first64_f (x : Int) (l : List Int) (h : l.length < 999999) : box_first_int64.f (x :: l) = some (x, l) := by
  unfold box_first_int64.f
  rw [if_pos (by rw [List.length_cons]; omega), if_pos (by rw [List.length_cons]; omega), List.drop_one, List.tail_cons, clone64_f l (by omega)]; rfl
theorem firstM_f (x : S65) (l : List S65) (h : l.length < 999999) : box_Mail_38.f (x :: l) = some (x.f0, x.f1, l) := by
  unfold box_Mail_38.f
  rw [if_pos (by rw [List.length_cons]; omega), if_pos (by rw [List.length_cons]; omega), List.drop_one, List.tail_cons, cloneM_f l (by omega)]; rfl
theorem send_wait (R : Int) (M : List Int) (S : List S65) (w : Int) (W : List Int) (g n : Int) (h : W.length < 999999) : box_Send.f R M S (w :: W) g n = some (R, M, S, W, w, true) := by
  unfold box_Send.f
  rw [if_pos (by rw [List.length_cons]; omega), first_f w W h]; rfl
theorem send_room (R : Int) (M : List Int) (S : List S65) (g n : Int) (h : (M.length : Int) < R) (hM : M.length < 999999) : box_Send.f R M S [] g n = some (R, M ++ [n], S, [], 0, true) := by
  unfold box_Send.f
  rw [if_neg (by simp), if_pos h, clone64_f M (by omega)]
  simp only [Option.bind_some]
  rw [if_pos (by omega)]
theorem send_full (R : Int) (M : List Int) (S : List S65) (g n : Int) (h : ¬ (M.length : Int) < R) (hS : S.length < 999999) : box_Send.f R M S [] g n = some (R, M, S ++ [⟨g, n⟩], [], 0, false) := by
  unfold box_Send.f
  rw [if_neg (by simp), if_neg h, cloneM_f S (by omega)]
  simp only [Option.bind_some]
  rw [if_pos (by omega)]
theorem recv_none (k : Nat) (R : Int) (W : List Int) (g : Int) (hW : W.length < 999999) : box_Recv.f (k + 1) R [] [] W g = some (R, [], [], W ++ [g], 0, 0, false) := by
  unfold box_Recv.f
  rw [if_pos (by simp)]
  simp only [box_Recv.j0]
  rw [if_pos (by simp), clone_f W (by omega)]
  simp only [Option.bind_some]
  rw [if_pos (by omega)]
theorem recv_send (k : Nat) (R : Int) (M : List Int) (s : S65) (S : List S65) (W : List Int) (g m : Int) (M' : List Int) (e : M ++ [s.f1] = m :: M') (hM : M.length < 99999) (hS : S.length < 99999) : box_Recv.f (k + 1) R M (s :: S) W g = some (R, M', S, W, m, s.f0, true) := by
  have hl : M'.length < 999999 := by have := congrArg List.length e; simp at this; omega
  have q : ((s :: S).length : Int) > 0 := by rw [List.length_cons]; omega
  have go : box_Recv.j0 (k + 1) g false R M (s :: S) W 0 0 = some (R, M', S, W, m, s.f0, true) := by
    simp only [box_Recv.j0]
    rw [if_neg (by decide), clone64_f M (by omega)]
    simp only [Option.bind_some]
    rw [if_pos q, firstM_f s S (by omega)]
    simp only [Option.bind_some]
    rw [if_pos (by omega), e, first64_f m M' hl]; rfl
  unfold box_Recv.f
  by_cases h : (M.length : Int) = 0
  · rw [if_pos h, show (((s :: S).length : Int) == 0) = false from beq_eq_false_iff_ne.2 (by rw [List.length_cons]; omega)]; exact go
  · rw [if_neg h]; exact go
theorem recv_msg (k : Nat) (R m : Int) (M : List Int) (W : List Int) (g : Int) (hM : M.length < 99999) : box_Recv.f (k + 1) R (m :: M) [] W g = some (R, M, [], W, m, 0, true) := by
  unfold box_Recv.f
  rw [if_neg (by rw [List.length_cons]; omega)]
  simp only [box_Recv.j0]
  rw [if_neg (by decide), clone64_f (m :: M) (by rw [List.length_cons]; omega)]
  simp only [Option.bind_some]
  rw [if_neg (by simp), first64_f m M (by omega)]; rfl
theorem shown_f (k : Nat) (hk : 100 ≤ k) : catafalquelaw11_shown.f k = some true :=
  at_rounds catafalquelaw11_shown.mono hk (by decide +kernel)
theorem index_l (l : List Int) (x : Int) (hl : l.length < 1000000) : ∀ (d k i : Nat), i ≤ l.length → l.length - i = d → d < k →
    (x ∈ l.drop i → ∃ j : Nat, slices_Index_int_int.l0 k l x (l.length : Int) (i : Int) = some (j : Int)) ∧ (x ∉ l.drop i → slices_Index_int_int.l0 k l x (l.length : Int) (i : Int) = some (-1)) := by
  intro d
  induction d with
  | zero =>
    intro k i hi hd hk
    obtain ⟨k, rfl⟩ : ∃ m, k = m + 1 := ⟨k - 1, by omega⟩
    have e : l.drop i = [] := List.drop_of_length_le (by omega)
    rw [e]
    refine ⟨fun h => by simp at h, fun _ => ?_⟩
    simp only [slices_Index_int_int.l0]
    rw [if_neg (by omega)]
  | succ d ih =>
    intro k i hi hd hk
    obtain ⟨k, rfl⟩ : ∃ m, k = m + 1 := ⟨k - 1, by omega⟩
    have hlt : i < l.length := by omega
    have q1 : (i : Int) < (l.length : Int) := by omega
    obtain ⟨y, n⟩ := ih k (i + 1) (by omega) (by omega) (by omega)
    have e : l.drop i = l[i] :: l.drop (i + 1) := List.drop_eq_getElem_cons hlt
    have r : rd l (i : Int) = l[i] := by rw [rd_nat, List.getD_eq_getElem?_getD, List.getElem?_eq_getElem hlt]; rfl
    rw [e]
    simp only [slices_Index_int_int.l0]
    rw [if_pos q1, if_pos (Int.natCast_nonneg i), if_pos q1, r, wrap_nat i (by omega)]
    by_cases h : x = l[i]
    · rw [if_pos h]
      exact ⟨fun _ => ⟨i, rfl⟩, fun hn => absurd (by rw [h]; exact List.mem_cons_self) hn⟩
    · rw [if_neg h]
      exact ⟨fun hm => y (by rcases List.mem_cons.1 hm with hm | hm; exact absurd hm h; exact hm), fun hn => n (fun hm => hn (List.mem_cons_of_mem _ hm))⟩
theorem contains_f (k : Nat) (l : List Int) (x : Int) (hl : l.length < 1000000) (hk : l.length < k) : slices_Contains_int_int.f k l x = some (decide (x ∈ l)) := by
  obtain ⟨y, n⟩ := index_l l x hl l.length k 0 (Nat.zero_le _) (by omega) hk
  rw [List.drop_zero] at y n
  unfold slices_Contains_int_int.f slices_Index_int_int.f
  by_cases h : x ∈ l
  · obtain ⟨j, hj⟩ := y h
    rw [show slices_Index_int_int.l0 k l x (l.length : Int) 0 = some (j : Int) from hj]
    simp only [Option.bind_some]
    rw [decide_eq_true h, decide_eq_true (Int.natCast_nonneg j)]
  · rw [show slices_Index_int_int.l0 k l x (l.length : Int) 0 = some (-1) from n h]
    simp only [Option.bind_some]
    rw [decide_eq_false h]; rfl
theorem ints_l (a : List Int) (ha : a.length < 1000000) : ∀ (d k i : Nat), i ≤ a.length → a.length - i = d → d < k → catafalqueref01_Ints.l0 k a a (i : Int) = some true := by
  intro d
  induction d with
  | zero =>
    intro k i hi hd hk
    obtain ⟨k, rfl⟩ : ∃ m, k = m + 1 := ⟨k - 1, by omega⟩
    simp only [catafalqueref01_Ints.l0]
    rw [if_neg (by omega)]
  | succ d ih =>
    intro k i hi hd hk
    obtain ⟨k, rfl⟩ : ∃ m, k = m + 1 := ⟨k - 1, by omega⟩
    have q1 : (i : Int) < (a.length : Int) := by omega
    have i1 := ih k (i + 1) (by omega) (by omega) (by omega)
    simp only [catafalqueref01_Ints.l0]
    rw [if_pos q1, if_pos (Int.natCast_nonneg i), if_pos q1, if_pos trivial, wrap_nat i (by omega)]
    exact i1
theorem ints_same (k : Nat) (a : List Int) (ha : a.length < 1000000) (hk : a.length < k) : catafalqueref01_Ints.f k a a = some true := by
  unfold catafalqueref01_Ints.f
  rw [if_pos rfl]
  exact ints_l a ha a.length k 0 (Nat.zero_le _) (by omega) hk
/-- who waits -/
theorem waiting_l (S : List S65) (hS : S.length < 1000000) : ∀ (d k i : Nat) (a : List Int), i ≤ S.length → S.length - i = d → a.length < 1000000 + i → d < k →
    box_waiting.l0 k a S (S.length : Int) (i : Int) = some (a ++ (S.drop i).map (·.f0)) := by
  intro d
  induction d with
  | zero =>
    intro k i a hi hd ha hk
    obtain ⟨k, rfl⟩ : ∃ m, k = m + 1 := ⟨k - 1, by omega⟩
    simp only [box_waiting.l0]
    rw [if_neg (by omega), List.drop_of_length_le (by omega)]; simp
  | succ d ih =>
    intro k i a hi hd ha hk
    obtain ⟨k, rfl⟩ : ∃ m, k = m + 1 := ⟨k - 1, by omega⟩
    have hlt : i < S.length := by omega
    have q1 : (i : Int) < (S.length : Int) := by omega
    have q2 : a.length < 17592186044416 := by omega
    have r : rd_T65 S (i : Int) = S[i] := by unfold rd_T65; rw [Int.toNat_natCast, List.getD_eq_getElem?_getD, List.getElem?_eq_getElem hlt]; rfl
    have i1 := ih k (i + 1) (a ++ [S[i].f0]) (by omega) (by omega) (by rw [List.length_append]; simp; omega) (by omega)
    simp only [box_waiting.l0]
    rw [if_pos q1, if_pos (Int.natCast_nonneg i), if_pos q1, if_pos q2, r, wrap_nat i (by omega), i1, List.drop_eq_getElem_cons hlt, List.map_cons, List.append_assoc]; rfl
theorem waiting_f (k : Nat) (R : Int) (M : List Int) (S : List S65) (W : List Int) (hS : S.length < 100000) (hW : W.length < 100000) (hk : S.length < k) : box_waiting.f k R M S W = some (W ++ S.map (·.f0)) := by
  unfold box_waiting.f
  rw [clone_f W (by omega)]
  simp only [Option.bind_some]
  have := waiting_l S (by omega) S.length k 0 W (Nat.zero_le _) (by omega) (by omega) hk
  rw [List.drop_zero] at this
  exact this
theorem may_l (l : List Int) (hl : l.length < 700) (R : Int) (M : List Int) (S : List S65) (W : List Int) (hpos : ∀ x ∈ l, 0 < x) (hnd : l.Nodup) : ∀ (d k i : Nat), i ≤ l.length → l.length - i = d → d + 1000 < k →
    ∃ k', box_May.l0 k l l (l.length : Int) (i : Int) R M S W = box_May.l0 (k' + 1) l l (l.length : Int) (l.length : Int) R M S W := by
  intro d
  induction d with
  | zero =>
    intro k i hi hd hk
    obtain rfl : i = l.length := by omega
    exact ⟨k - 1, by rw [Nat.sub_add_cancel (by omega)]⟩
  | succ d ih =>
    intro k i hi hd hk
    obtain ⟨k, rfl⟩ : ∃ m, k = m + 1 := ⟨k - 1, by omega⟩
    have hlt : i < l.length := by omega
    have q1 : (i : Int) < (l.length : Int) := by omega
    have q2 : (i : Int) ≤ (l.length : Int) := by omega
    have r : rd l (i : Int) = l[i] := by rw [rd_nat, List.getD_eq_getElem?_getD, List.getElem?_eq_getElem hlt]; rfl
    have hp := hpos l[i] (List.getElem_mem hlt)
    have hn : l[i] ∉ l.take i := by
      intro hm
      obtain ⟨j, hj, e⟩ := List.getElem_of_mem hm
      rw [List.length_take] at hj
      rw [List.getElem_take] at e
      exact List.pairwise_iff_getElem.1 hnd j i (by omega) hlt (by omega) e
    have i1 := ih k (i + 1) (by omega) (by omega) (by omega)
    obtain ⟨k', hk'⟩ := i1
    refine ⟨k', ?_⟩
    rw [← hk']
    conv => lhs; rw [box_May.l0]
    rw [if_pos q1, if_pos (Int.natCast_nonneg i), if_pos q1, r, if_neg (by omega), if_pos q2, Int.toNat_natCast, contains_f k (l.take i) l[i] (by rw [List.length_take]; omega) (by rw [List.length_take]; omega)]
    simp only [Option.bind_some]
    rw [decide_eq_false hn, if_neg (by decide), wrap_nat i (by omega)]
/-- a mailbox that may be -/
theorem may_yes (k : Nat) (R : Int) (M : List Int) (S : List S65) (W : List Int) (hk : 3000 < k) (hS : S.length < 350) (hW : W.length < 350) (h0 : 0 ≤ R) (h8 : R ≤ 8) (hM : (M.length : Int) ≤ R)
    (hF : S ≠ [] → (M.length : Int) = R) (hE : W ≠ [] → M = [] ∧ S = []) (hpos : ∀ x ∈ W ++ S.map (·.f0), 0 < x) (hnd : (W ++ S.map (·.f0)).Nodup) : box_May.f k R M S W = some true := by
  unfold box_May.f
  rw [waiting_f k R M S W (by omega) (by omega) (by omega)]
  simp only [Option.bind_some]
  have hl : (W ++ S.map (·.f0)).length < 700 := by rw [List.length_append, List.length_map]; omega
  obtain ⟨k', hk'⟩ := may_l (W ++ S.map (·.f0)) hl R M S W hpos hnd _ k 0 (Nat.zero_le _) rfl (by omega)
  have e0 : ((0 : Nat) : Int) = 0 := rfl
  rw [e0] at hk'
  rw [hk', box_May.l0, if_neg (by omega)]
  rcases W with _ | ⟨w, W⟩
  · rcases S with _ | ⟨s, S⟩
    · by_cases a : (M.length : Int) = 0
      · rw [if_pos a, if_pos (by omega), if_pos h8, if_pos hM]; simp
      · rw [if_neg a, if_pos (by omega), if_pos h8, if_pos hM]; simp
    · have e := hF (by simp)
      have n : ¬ ((s :: S).length : Int) = 0 := by rw [List.length_cons]; omega
      by_cases a : (M.length : Int) = 0
      · rw [if_pos a, if_pos (by omega), if_pos h8, if_pos hM, if_pos e, if_neg n]; rfl
      · rw [if_neg a, if_pos (by omega), if_pos h8, if_pos hM, if_pos e]; rfl
  · obtain ⟨rfl, rfl⟩ := hE (by simp)
    rw [if_pos (by rfl), if_pos (by omega), if_pos h8, if_pos hM]; simp
end Go.Proofs.Ytibkpacjijbblaa.Pure
