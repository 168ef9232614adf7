/- Walks over the program's functions, on values without memory, and what they come to. No condition. -/
import Derived.Test.YtaaenepdhjdmlaaZB
set_option linter.unusedVariables false
set_option linter.unusedSimpArgs false
namespace Go.Proofs.YtaaenepdhjdmlaaT
open Go
set_option linter.unusedVariables false
theorem UpT.one {t : List (Int × Int)} (h : UpT t) : (levL t 0).length = 1 := by
  have : levL t 0 = [0] := by
    have : levL t 0 = idxs t.length (fun i => decide (i = 0)) := idxs_congr fun i hi => by
      rw [Bool.eq_iff_iff, decide_eq_true_eq, decide_eq_true_eq]; exact h.lev0 hi
    rw [this]
    obtain ⟨n, hn⟩ : ∃ n, t.length = n + 1 := ⟨t.length - 1, by have := h.pos; omega⟩
    rw [hn]
    unfold idxs
    rw [List.range_succ_eq_map, List.filter_cons_of_pos (by simp), List.filter_eq_nil_iff.2 (by simp)]
    rfl
  rw [this]; rfl
theorem lay_levels {t : List (Int × Int)} (h : Tree t) : (lay (shape t)).length = t.length ∧ ∀ l : Nat, l ≤ 3 → (levL (lay (shape t)) l).length = (levL t l).length := by
  have hm := shape_may h
  have hu := h.upT
  have hl := lay_up hm.ok hm.ne
  obtain ⟨c1, c2, c3, c4⟩ := hu.count
  obtain ⟨d1, d2, d3, d4⟩ := hl.count
  rw [shape_lay] at d1 d2 d3
  have o1 := hu.one; have o2 := hl.one
  refine ⟨by rw [d4, d1, d2, d3, c4, c1, c2, c3], fun l hl3 => ?_⟩
  rcases (show l = 0 ∨ l = 1 ∨ l = 2 ∨ l = 3 by omega) with rfl | rfl | rfl | rfl
  · show (levL (lay (shape t)) 0).length = (levL t 0).length
    rw [o1, o2]
  · show (levL (lay (shape t)) 1).length = (levL t 1).length
    rw [c1, d1]
  · show (levL (lay (shape t)) 2).length = (levL t 2).length
    rw [c2, d2]
  · show (levL (lay (shape t)) 3).length = (levL t 3).length
    rw [c3, d3]
-- a vertex of a higher level than the last one stands below that one
structure TuR (r : Rd) : Prop where
  up : UpR r
  nx : ∀ i, i + 1 < r.t.length → lev r.t (i + 1) ≤ lev r.t i ∨ par r.t (i + 1) = i
  ls : r.t ≠ [] → (r.op.length : Int) ≤ lev r.t (r.t.length - 1) ∨ lastI r.op = (r.t.length : Int) - 1
theorem lastI_snoc (l : List Int) (x : Int) : lastI (l ++ [x]) = x := by
  unfold lastI
  rw [if_neg (by simp)]
  simp [List.getD_eq_getElem?_getD]
theorem TuR.tk {r : Rd} (h : TuR r) {b : UInt8} (hb : (tk r b).2 = true) : TuR (tk r b).1 := by
  have hU := h.up.tk hb
  obtain ⟨t, op, opens, fresh⟩ := r
  obtain ⟨h1, h2, h3⟩ := h
  have hO := h1.opens
  have hP := h1.op
  dsimp only at h2 h3 hO hP
  cases opens with
  | true =>
    have e := tk_opens hb
    subst e
    rw [tk_open] at hU ⊢
    exact ⟨hU, h2, fun hn => .inr (lastI_snoc _ _)⟩
  | false =>
    rcases tk_else hb with ⟨rfl, g1, g2⟩ | ⟨g1, g2⟩
    · rw [g2, tk_close g1] at hU ⊢
      refine ⟨hU, h2, fun hn => .inl ?_⟩
      have hl := List.length_pos_iff.2 g1
      show (((op.take (op.length - 1)).length : Nat) : Int) ≤ lev t (t.length - 1)
      rw [List.length_take, Nat.min_eq_left (by omega)]
      rcases h3 hn with e | e
      · have e' : (op.length : Int) ≤ lev t (t.length - 1) := e
        omega
      · have e' : lastI op = (t.length : Int) - 1 := e
        unfold lastI at e'
        rw [if_neg g1, getD_at (by omega)] at e'
        have := (hP (op.length - 1) (by omega)).2.2
        have hp := List.length_pos_iff.2 hn
        dsimp only at hp
        rw [e', show ((t.length : Int) - 1).toNat = t.length - 1 by omega] at this
        omega
    · rw [tk_vtx g1 g2] at hU ⊢
      refine ⟨hU, fun i hi => ?_, fun _ => .inl ?_⟩
      · have hi' : i + 1 < (t ++ [(lastI op, (op.length : Int))]).length := hi
        simp only [List.length_append, List.length_cons, List.length_nil] at hi'
        show lev (t ++ [_]) (i + 1) ≤ lev (t ++ [_]) i ∨ par (t ++ [_]) (i + 1) = i
        by_cases hil : i + 1 < t.length
        · rw [(par_app hil).2, (par_app hil).1, (par_app (show i < t.length by omega)).2]; exact h2 i hil
        · have e : i + 1 = t.length := by omega
          have hn : t ≠ [] := fun e2 => by rw [e2] at e; simp at e
          rw [e, par_new.2, par_new.1, (par_app (show i < t.length by omega)).2]
          rcases h3 hn with e3 | e3
          · have e4 : (op.length : Int) ≤ lev t (t.length - 1) := e3
            rw [← e, Nat.add_sub_cancel] at e4
            exact .inl e4
          · have e4 : lastI op = (t.length : Int) - 1 := e3
            exact .inr (by rw [e4]; omega)
      · show (op.length : Int) ≤ lev (t ++ [_]) ((t ++ [_]).length - 1)
        simp only [List.length_append, List.length_cons, List.length_nil, Nat.add_sub_cancel]
        rw [par_new.2]; exact Int.le_refl _
theorem TuR.run : ∀ (l : List UInt8) {r r' : Rd} {p : Nat}, TuR r → brun p l r = (none, r') → TuR r'
  | [], r, r', p, h, hb => by
    simp only [brun, Prod.mk.injEq] at hb
    rw [← hb.2]; exact h
  | b :: l, r, r', p, h, hb => by
    unfold brun at hb
    split at hb
    · rename_i h1; exact TuR.run l (h.tk h1) hb
    · cases hb
theorem lay_turn {T : List (List Nat)} (h : MayT T) : ∀ i, i + 1 < (lay T).length → ¬ (par (lay T) (i + 1) < par (lay T) i ∧ lev (lay T) (i + 1) > lev (lay T) i) := by
  have hr : TuR rd0 := ⟨upR0, fun i hi => absurd hi (by simp [rd0]), fun e => absurd rfl e⟩
  have hT := TuR.run _ hr (run_tx h.ok h.ne)
  have hu := lay_up h.ok h.ne
  intro i hi
  rintro ⟨a, b⟩
  rcases hT.nx i hi with e | e
  · have e' : lev (lay T) (i + 1) ≤ lev (lay T) i := e
    omega
  · have e' : par (lay T) (i + 1) = i := e
    rcases Nat.eq_zero_or_pos i with e0 | e0
    · subst e0; have := hu.root.1; omega
    · have := (hu.up i e0 (by omega)).2.1; omega
-- bytes of each kind
theorem cnt_c (b : UInt8) (c : Nat) : (txC c).count b = (if b = 99 then 1 else 0) + (if b = 40 then 1 else 0) + (if b = 112 then c else 0) + (if b = 41 then 1 else 0) := by
  simp only [txC, List.count_cons, List.count_append, List.count_replicate, List.count_nil, beq_iff_eq]
  by_cases h1 : b = 99
  · subst h1; simp
  · by_cases h2 : b = 40
    · subst h2; simp
    · by_cases h3 : b = 112
      · subst h3; simp
      · by_cases h4 : b = 41
        · subst h4; simp
        · simp [h1, h2, h3, h4, Ne.symm h1, Ne.symm h2, Ne.symm h3, Ne.symm h4, eq_comm]
theorem cnt_n : ∀ n : List Nat, (txN n).count 109 = 0 ∧ (txN n).count 110 = 1 ∧ (txN n).count 99 = n.length ∧ (txN n).count 112 = n.sum ∧ (txN n).count 40 = 1 + n.length ∧ (txN n).count 41 = 1 + n.length
  | [] => by decide
  | c :: n => by
    obtain ⟨a1, a2, a3, a4, a5, a6⟩ := cnt_n n
    have e : ∀ b : UInt8, (txN (c :: n)).count b = (txC c).count b + (txN n).count b := by
      intro b
      simp only [txN, List.flatMap_cons, List.count_cons, List.count_append]; omega
    simp only [e, a1, a2, a3, a4, a5, a6, cnt_c, List.length_cons, List.sum_cons]
    refine ⟨by simp, by simp, by simp; omega, by simp, by simp; omega, by simp; omega⟩
theorem cnt_tx : ∀ T : List (List Nat), (tx T).count 109 = 1 ∧ (tx T).count 110 = T.length ∧ (tx T).count 99 = cntN T ∧ (tx T).count 112 = cntP T ∧ (tx T).count 40 = 1 + T.length + cntN T ∧ (tx T).count 41 = 1 + T.length + cntN T
  | [] => by decide
  | n :: T => by
    obtain ⟨a1, a2, a3, a4, a5, a6⟩ := cnt_tx T
    obtain ⟨b1, b2, b3, b4, b5, b6⟩ := cnt_n n
    have e : ∀ b : UInt8, (tx (n :: T)).count b = (txN n).count b + (tx T).count b := by
      intro b
      simp only [tx, List.flatMap_cons, List.count_cons, List.count_append]; omega
    have e1 : cntN (n :: T) = n.length + cntN T := by simp [cntN]
    have e2 : cntP (n :: T) = n.sum + cntP T := by simp [cntP]
    refine ⟨by rw [e, b1, a1], by rw [e, b2, a2, List.length_cons]; omega, by rw [e, b3, a3, e1], by rw [e, b4, a4, e2], by rw [e, b5, a5, e1, List.length_cons]; omega, by rw [e, b6, a6, e1, List.length_cons]; omega⟩
end Go.Proofs.YtaaenepdhjdmlaaT
