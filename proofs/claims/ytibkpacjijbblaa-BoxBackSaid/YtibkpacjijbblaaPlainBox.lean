/- Mailboxes, plainly: what the program's functions of layer 11 come to. -/
import Derived.Test.YtibkpacjijbblaaQBoxx4
namespace Go.Proofs.Ytibkpacjijbblaa.Pure
open Go Go.RowKit Go.Proofs.Ytibkpacjijbblaa.QBox Go.Proofs.YtibkpacjijbblaaW.PrintWords Go.Proofs.YtibkpacjijbblaaW.PrintLast Go.Proofs.YtibkpacjijbblaaW.PrintMore
/-! ### mailboxes, plainly -/
theorem wrap_nat (i : Nat) (h : i < 17592186044416) : wrap64 ((i : Int) + 1) = ((i + 1 : Nat) : Int) := by unfold wrap64; omega
theorem rd_nat (l : List Int) (i : Nat) : rd l (i : Int) = l.getD i 0 := by unfold rd; rw [Int.toNat_natCast]
theorem clone_f (l : List Int) (h : l.length < 1000000) : slices_Clone_int_int.f l = some l := by
  unfold slices_Clone_int_int.f
  simp only [Option.bind_some, List.length_nil, List.nil_append]
  rw [if_pos (by omega)]
theorem clone64_f (l : List Int) (h : l.length < 1000000) : slices_Clone_int64_int64.f l = some l := by
  unfold slices_Clone_int64_int64.f
  simp only [Option.bind_some, List.length_nil, List.nil_append]
  rw [if_pos (by omega)]
theorem cloneM_f (l : List S65) (h : l.length < 1000000) : box_Mail_36.f l = some l := by
  unfold box_Mail_36.f
  simp only [Option.bind_some, List.length_nil, List.nil_append]
  rw [if_pos (by omega)]
theorem first_f (x : Int) (l : List Int) (h : l.length < 999999) : box_first_int.f (x :: l) = some (x, l) := by
  unfold box_first_int.f
  rw [if_pos (by rw [List.length_cons]; omega), if_pos (by rw [List.length_cons]; omega), List.drop_one, List.tail_cons, clone_f l (by omega)]; rfl
theorem first64_f (x : Int) (l : List Int) (h : l.length < 999999) : box_first_int64.f (x :: l) = some (x, l) := by
  unfold box_first_int64.f
  rw [if_pos (by rw [List.length_cons]; omega), if_pos (by rw [List.length_cons]; omega), List.drop_one, List.tail_cons, clone64_f l (by omega)]; rfl
theorem firstM_f (x : S65) (l : List S65) (h : l.length < 999999) : box_Mail_38.f (x :: l) = some (x.f0, x.f1, l) := by
  unfold box_Mail_38.f
  rw [if_pos (by rw [List.length_cons]; omega), if_pos (by rw [List.length_cons]; omega), List.drop_one, List.tail_cons, cloneM_f l (by omega)]; rfl
theorem send_wait (R : Int) (M : List Int) (S : List S65) (w : Int) (W : List Int) (g n : Int) (h : W.length < 999999) : box_Send.f R M S (w :: W) g n = some (R, M, S, W, w, true) := by
  unfold box_Send.f
  rw [if_pos (by rw [List.length_cons]; omega), first_f w W h]; rfl
theorem send_room (R : Int) (M : List Int) (S : List S65) (g n : Int) (h : (M.length : Int) < R) (hM : M.length < 999999) : box_Send.f R M S [] g n = some (R, M ++ [n], S, [], 0, true) := by
  unfold box_Send.f
  rw [if_neg (by simp), if_pos h, clone64_f M (by omega)]
  simp only [Option.bind_some]
  rw [if_pos (by omega)]
theorem send_full (R : Int) (M : List Int) (S : List S65) (g n : Int) (h : ¬ (M.length : Int) < R) (hS : S.length < 999999) : box_Send.f R M S [] g n = some (R, M, S ++ [⟨g, n⟩], [], 0, false) := by
  unfold box_Send.f
  rw [if_neg (by simp), if_neg h, cloneM_f S (by omega)]
  simp only [Option.bind_some]
  rw [if_pos (by omega)]
theorem recv_none (k : Nat) (R : Int) (W : List Int) (g : Int) (hW : W.length < 999999) : box_Recv.f (k + 1) R [] [] W g = some (R, [], [], W ++ [g], 0, 0, false) := by
  unfold box_Recv.f
  rw [if_pos (by simp)]
  simp only [box_Recv.j0]
  rw [if_pos (by simp), clone_f W (by omega)]
  simp only [Option.bind_some]
  rw [if_pos (by omega)]
theorem recv_send (k : Nat) (R : Int) (M : List Int) (s : S65) (S : List S65) (W : List Int) (g m : Int) (M' : List Int) (e : M ++ [s.f1] = m :: M') (hM : M.length < 99999) (hS : S.length < 99999) : box_Recv.f (k + 1) R M (s :: S) W g = some (R, M', S, W, m, s.f0, true) := by
  have hl : M'.length < 999999 := by have := congrArg List.length e; simp at this; omega
  have q : ((s :: S).length : Int) > 0 := by rw [List.length_cons]; omega
  have go : box_Recv.j0 (k + 1) g false R M (s :: S) W 0 0 = some (R, M', S, W, m, s.f0, true) := by
    simp only [box_Recv.j0]
    rw [if_neg (by decide), clone64_f M (by omega)]
    simp only [Option.bind_some]
    rw [if_pos q, firstM_f s S (by omega)]
    simp only [Option.bind_some]
    rw [if_pos (by omega), e, first64_f m M' hl]; rfl
  unfold box_Recv.f
  by_cases h : (M.length : Int) = 0
  · rw [if_pos h, show (((s :: S).length : Int) == 0) = false from beq_eq_false_iff_ne.2 (by rw [List.length_cons]; omega)]; exact go
  · rw [if_neg h]; exact go
theorem recv_msg (k : Nat) (R m : Int) (M : List Int) (W : List Int) (g : Int) (hM : M.length < 99999) : box_Recv.f (k + 1) R (m :: M) [] W g = some (R, M, [], W, m, 0, true) := by
  unfold box_Recv.f
  rw [if_neg (by rw [List.length_cons]; omega)]
  simp only [box_Recv.j0]
  rw [if_neg (by decide), clone64_f (m :: M) (by rw [List.length_cons]; omega)]
  simp only [Option.bind_some]
  rw [if_neg (by simp), first64_f m M (by omega)]; rfl
theorem shown_f (k : Nat) (hk : 100 ≤ k) : catafalquelaw11_shown.f k = some true :=
  at_rounds catafalquelaw11_shown.mono hk (by decide +kernel)
end Go.Proofs.Ytibkpacjijbblaa.Pure
