/- Walks over the program's functions, on values without memory, and what they come to. No condition. -/
import Derived.Test.YtaaenepdhjdmlaaYA
import Derived.Test.YtaaenepdhjdmlaaZA
set_option linter.unusedVariables false
set_option linter.unusedSimpArgs false
namespace Go.Proofs.YtaaenepdhjdmlaaT
open Go Go.Proofs Go.RowKit Go.Proofs.YtaaenepdhjdmlaaT.Ty
set_option linter.unusedVariables false
theorem txC_len (c : Nat) : (txC c).length = 3 + c := by simp [txC]; omega
theorem txN_len : ∀ n : List Nat, (txN n).length = 3 + (3 * n.length + n.sum)
  | [] => rfl
  | c :: n => by
    have := txN_len n
    simp only [txN, List.length_cons, List.length_append, List.length_nil, List.flatMap_cons, txC_len, List.sum_cons] at this ⊢
    omega
theorem tx_len : ∀ T : List (List Nat), (tx T).length = 3 + (3 * T.length + 3 * cntN T + cntP T)
  | [] => rfl
  | n :: T => by
    have := tx_len T
    simp only [tx, cntN, cntP, List.length_cons, List.length_append, List.length_nil, List.flatMap_cons, txN_len, List.map_cons, List.sum_cons] at this ⊢
    omega
theorem flat_one : ∀ K : List Int, K.flatMap (fun _ => [(112 : UInt8)]) = List.replicate K.length 112
  | [] => rfl
  | k :: K => by rw [List.flatMap_cons, flat_one K, List.length_cons, List.replicate_succ]; rfl
theorem flat_map {α β : Type} (f : Int → β) (g : β → List α) : ∀ K : List Int, K.flatMap (fun k => g (f k)) = (K.map f).flatMap g
  | [] => rfl
  | k :: K => by simp only [List.flatMap_cons, List.map_cons, flat_map f g K]
theorem of_p (f : Bool) {t : List (Int × Int)} (h : Tree t) {v : Nat} (hv : v < t.length) (hl : lev t v = 3) : Ret Try.prog 21 [.sl f (vts t), .int .i64 v] (.str ⟨([112] : List UInt8).toArray⟩) := by
  have hle := h.le
  have := of_ret f t v (fun _ => []) hv (by omega) (h.lv v hv) (fun e => absurd hl e)
  unfold ofT at this
  rw [hl] at this
  exact this
theorem of_c (f : Bool) {t : List (Int × Int)} (h : Tree t) {v : Nat} (hv : v < t.length) (hl : lev t v = 2) : Ret Try.prog 21 [.sl f (vts t), .int .i64 v] (.str ⟨(txC (kidsL t v).length).toArray⟩) := by
  have hle := h.le
  have := of_ret f t v (fun _ => [112]) hv (by omega) (h.lv v hv) (fun _ k hk => by
    obtain ⟨n, rfl, hn, hnl⟩ := kid_lt h.upT hk
    exact ⟨by simp, of_p f h hn (by omega)⟩)
  unfold ofT at this
  rw [hl, flat_one] at this
  exact this
theorem of_n (f : Bool) {t : List (Int × Int)} (h : Tree t) {v : Nat} (hv : v < t.length) (hl : lev t v = 1) : Ret Try.prog 21 [.sl f (vts t), .int .i64 v] (.str ⟨(txN ((kidsL t v).map fun c => (kidsL t c).length)).toArray⟩) := by
  have hle := h.le
  have := of_ret f t v (fun k => txC (kidsL t k).length) hv (by omega) (h.lv v hv) (fun _ k hk => by
    obtain ⟨n, rfl, hn, hnl⟩ := kid_lt h.upT hk
    have := h.kids n hn
    exact ⟨by rw [txC_len]; omega, of_c f h hn (by omega)⟩)
  unfold ofT at this
  rw [hl, flat_map (fun k => (kidsL t k).length) txC] at this
  exact this
theorem of_m (f : Bool) {t : List (Int × Int)} (h : Tree t) : Ret Try.prog 21 [.sl f (vts t), .int .i64 0] (.str ⟨(tx (shape t)).toArray⟩) := by
  have hle := h.le
  have hm := shape_may h
  have hsz := hm.size
  have := of_ret f t 0 (fun k => txN ((kidsL t k).map fun c => (kidsL t c).length)) h.pos (by omega) (h.lv 0 h.pos) (fun _ k hk => by
    have hms : ((kidsL t k).map fun c => (kidsL t c).length) ∈ shape t := List.mem_map.2 ⟨k, hk, rfl⟩
    have h2 := hm.nd _ hms
    have h3 : ((kidsL t k).map fun c => (kidsL t c).length).sum ≤ cntP (shape t) := by
      unfold cntP
      have : ∀ (l : List Nat) (a : Nat), a ∈ l → a ≤ l.sum := by
        intro l
        induction l with
        | nil => intro a h; cases h
        | cons x l ih =>
          intro a h
          simp only [List.sum_cons]
          rcases List.mem_cons.1 h with rfl | h
          · omega
          · have := ih a h; omega
      exact this _ _ (List.mem_map.2 ⟨_, hms, rfl⟩)
    have h4 := hm.few
    obtain ⟨n, rfl, hn, hnl⟩ := kid_lt h.upT (v := 0) hk
    refine ⟨by rw [txN_len]; omega, of_n f h hn (by rw [hnl, h.root.2]; rfl)⟩)
  unfold ofT at this
  rw [h.root.2, flat_map (fun k => (kidsL t k).map fun c => (kidsL t c).length) txN] at this
  exact this
/-- The text of a machine is read to its vertices. -/
theorem parse_tx {T : List (List Nat)} (h : MayT T) : parT ⟨(tx T).toArray⟩ = lay T ∧ parA ⟨(tx T).toArray⟩ = 0 ∧ parE ⟨(tx T).toArray⟩ = 0 := by
  have hr : runF ⟨(tx T).toArray⟩ (ByteArray.size ⟨(tx T).toArray⟩) 0 rd0 = (none, ⟨lay T, [], false, false⟩) := by
    rw [runF_all]; exact run_tx h.ok h.ne
  have hc : chk (lay T) = 0 := (chk_iff _).2 (lay_tree h)
  obtain ⟨q1, q2, q3⟩ := par_end hr
  rw [q1, q2, q3]
  simp [hc]
/-- What is read well is a machine's text. -/
theorem parse_back {s : ByteArray} (h : parE s = 0) : ∃ T, MayT T ∧ s = ⟨(tx T).toArray⟩ ∧ parT s = lay T := by
  cases hr : runF s s.size 0 rd0 with
  | mk o r =>
    cases o with
    | some p => have := (par_no hr).2.2; omega
    | none =>
      obtain ⟨q1, q2, q3⟩ := par_end hr
      rw [h] at q3
      have hb : ¬ (r.opens || decide ((r.op.length : Int) > 0) || !decide (chk r.t = 0)) = true := fun e => by rw [if_pos e] at q3; cases q3
      rw [if_neg hb] at q1
      simp only [Bool.or_eq_true, decide_eq_true_eq, Bool.not_eq_true', decide_eq_false_iff_not, not_or, Bool.not_eq_true, Decidable.not_not] at hb
      have hT := (chk_iff _).1 hb.2
      have hop : r.op = [] := List.eq_nil_of_length_eq_zero (by omega)
      have hd : r.done := ⟨hb.1.1, hop, fun e => by have := hT.pos; rw [e] at this; simp at this⟩
      rw [runF_all] at hr
      obtain ⟨T, k1, k2, k3, k4⟩ := run_back hr hd
      have hrt : r.t = lay T := by rw [k4]
      rw [hrt] at hT q1
      have hm := shape_may hT
      rw [shape_lay] at hm
      refine ⟨T, hm, ?_, q1⟩
      rw [← k3]
end Go.Proofs.YtaaenepdhjdmlaaT
