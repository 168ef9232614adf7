/- Walks over the program's functions, on values without memory, and what they come to. No condition. -/
import Derived.Test.YtaaenepdhjdmlaaZC
set_option linter.unusedVariables false
set_option linter.unusedSimpArgs false
namespace Go.Proofs.YtaaenepdhjdmlaaT
open Go
set_option linter.unusedVariables false
theorem run_list (l : List UInt8) : runF ⟨l.toArray⟩ (ByteArray.size ⟨l.toArray⟩) 0 rd0 = brun 0 l rd0 := by
  rw [runF_all]
theorem stop_at {A R : List UInt8} {x : UInt8} {r : Rd} (h : brun 0 A rd0 = (none, r)) (hx : (tk r x).2 = false) : parA ⟨(A ++ x :: R).toArray⟩ = A.length ∧ parE ⟨(A ++ x :: R).toArray⟩ = 2 := by
  have h1 : runF ⟨(A ++ x :: R).toArray⟩ (ByteArray.size ⟨(A ++ x :: R).toArray⟩) 0 rd0 = (some (0 + A.length), r) := by
    rw [run_list, brun_app _ _ _ _ _ h]
    show (if (tk r x).2 = true then _ else _) = _
    rw [hx]; rfl
  obtain ⟨_, q2, q3⟩ := par_no h1
  rw [Nat.zero_add] at q2
  exact ⟨q2, q3⟩
theorem pre_run {T : List (List Nat)} (h : MayT T) {k : Nat} : ∃ m, brun 0 ((tx T).take k) rd0 = (none, m) ∧ brun ((tx T).take k).length ((tx T).drop k) m = (none, ⟨lay T, [], false, false⟩) := by
  have hr := run_tx h.ok h.ne
  rw [← List.take_append_drop k (tx T)] at hr
  obtain ⟨m, h1, h2⟩ := brun_pre _ _ _ _ _ hr
  rw [Nat.zero_add] at h2
  exact ⟨m, h1, h2⟩
theorem parse_cut {T : List (List Nat)} (h : MayT T) {k : Nat} (hk : k < (tx T).length) : parA ⟨((tx T).take k).toArray⟩ = k ∧ parE ⟨((tx T).take k).toArray⟩ = 2 := by
  obtain ⟨m, h1, h2⟩ := pre_run h (k := k)
  have hl : ((tx T).take k).length = k := by rw [List.length_take]; omega
  obtain ⟨_, q2, q3⟩ := par_end (s := ⟨((tx T).take k).toArray⟩) ((run_list _).trans h1)
  have hB : (m.opens || decide ((m.op.length : Int) > 0) || !decide (chk m.t = 0)) = true := by
    cases ho : m.opens with
    | true => rfl
    | false =>
      by_cases h3 : m.op = []
      · by_cases h4 : m.t = []
        · have hc0 : chk [] = 2 := by decide
          rw [h4, hc0]; simp
        · have hd : m.done := ⟨ho, h3, h4⟩
          rw [List.drop_eq_getElem_cons hk] at h2
          have ht : (tk m (tx T)[k]).2 = false := take_done hd _
          unfold brun at h2
          rw [ht] at h2
          cases h2
      · have := List.length_pos_iff.2 h3
        simp; left; exact this
  rw [if_pos hB] at q2 q3
  have hs : (⟨((tx T).take k).toArray⟩ : ByteArray).size = k := by simp only [ByteArray.size, List.size_toArray, hl]
  exact ⟨by rw [q2, hs], q3⟩
theorem parse_more {T : List (List Nat)} (h : MayT T) (x : UInt8) : parA ⟨(tx T ++ [x]).toArray⟩ = (tx T).length ∧ parE ⟨(tx T ++ [x]).toArray⟩ = 2 :=
  stop_at (run_tx h.ok h.ne) (take_done ⟨rfl, rfl, by simp [lay]⟩ _)
theorem parse_other {T : List (List Nat)} (h : MayT T) {k : Nat} (hk : k ≤ (tx T).length) {x : UInt8} (hx : ¬ okC (x.toNat : Int)) (R : List UInt8) : parA ⟨((tx T).take k ++ x :: R).toArray⟩ = k ∧ parE ⟨((tx T).take k ++ x :: R).toArray⟩ = 2 := by
  obtain ⟨m, h1, _⟩ := pre_run h (k := k)
  have hl : ((tx T).take k).length = k := by rw [List.length_take]; omega
  have := stop_at (R := R) h1 (take_bad hx)
  rw [hl] at this
  exact this
/-- Two readers in step, the second with a vertex more. -/
structure Sh (r r' : Rd) : Prop where
  t : r'.t.length = r.t.length + 1
  op : r'.op.length = r.op.length
  o : r'.opens = r.opens
  f : r'.fresh = r.fresh
  ne : r.t ≠ []
theorem Sh.tk {r r' : Rd} (h : Sh r r') (b : UInt8) : (tk r' b).2 = (tk r b).2 ∧ ((tk r b).2 = true → Sh (tk r b).1 (tk r' b).1) := by
  obtain ⟨t, op, o, f⟩ := r
  obtain ⟨t', op', o', f'⟩ := r'
  obtain ⟨h1, h2, h3, h4, h5⟩ := h
  dsimp only at h1 h2 h3 h4 h5
  subst h3 h4
  have hop : op' = [] ↔ op = [] := by rw [← List.length_eq_zero_iff, ← List.length_eq_zero_iff, h2]
  have ht' : t' ≠ [] := fun e => by rw [e] at h1; simp at h1
  unfold Go.Proofs.YtaaenepdhjdmlaaT.tk takeF
  dsimp only
  cases o' with
  | true =>
    simp only [if_true]
    refine ⟨trivial, fun _ => ⟨h1, ?_, rfl, rfl, h5⟩⟩
    simp only [List.length_append, List.length_cons, List.length_nil, h2]
  | false =>
    simp only [Bool.false_eq_true, if_false]
    by_cases hc : (b.toNat : Int) = 41 ∧ op ≠ [] ∧ f' = false
    · have hc' : (b.toNat : Int) = 41 ∧ op' ≠ [] ∧ f' = false := ⟨hc.1, fun e => hc.2.1 (hop.1 e), hc.2.2⟩
      rw [if_pos hc, if_pos hc']
      refine ⟨rfl, fun _ => ⟨h1, ?_, rfl, rfl, h5⟩⟩
      simp only [List.length_take, h2]
    · have hc' : ¬ ((b.toNat : Int) = 41 ∧ op' ≠ [] ∧ f' = false) := fun e => hc ⟨e.1, fun e2 => e.2.1 (hop.2 e2), e.2.2⟩
      rw [if_neg hc, if_neg hc']
      by_cases hd : (op = [] ∧ t ≠ []) ∨ (b.toNat : Int) ≠ letter op.length
      · have hd' : (op' = [] ∧ t' ≠ []) ∨ (b.toNat : Int) ≠ letter op'.length := by
          rcases hd with e | e
          · exact .inl ⟨hop.2 e.1, ht'⟩
          · exact .inr (by rw [h2]; exact e)
        rw [if_pos hd, if_pos hd']
        exact ⟨rfl, fun e => by cases e⟩
      · have hd' : ¬ ((op' = [] ∧ t' ≠ []) ∨ (b.toNat : Int) ≠ letter op'.length) := by
          rintro (e | e)
          · exact hd (.inl ⟨hop.1 e.1, h5⟩)
          · exact hd (.inr (by rw [← h2]; exact e))
        rw [if_neg hd, if_neg hd']
        refine ⟨rfl, fun _ => ⟨?_, h2, ?_, rfl, by simp [vtxF]⟩⟩
        · simp only [vtxF, List.length_append, List.length_cons, List.length_nil, h1]
        · simp only [vtxF, h2]
theorem Sh.run : ∀ (l : List UInt8) {r r' x : Rd} {p q : Nat}, Sh r r' → brun p l r = (none, x) → ∃ x', brun q l r' = (none, x') ∧ Sh x x'
  | [], r, r', x, p, q, h, hb => by
    simp only [brun, Prod.mk.injEq] at hb
    exact ⟨r', rfl, by rw [← hb.2]; exact h⟩
  | b :: l, r, r', x, p, q, h, hb => by
    obtain ⟨h1, h2⟩ := h.tk b
    unfold brun at hb
    split at hb
    · rename_i hc
      obtain ⟨x', k1, k2⟩ := Sh.run l (q := q + 1) (h2 hc) hb
      refine ⟨x', ?_, k2⟩
      show (if (Go.Proofs.YtaaenepdhjdmlaaT.tk r' b).2 = true then _ else _) = _
      rw [h1, if_pos hc]; exact k1
    · cases hb
theorem parse_grown {T : List (List Nat)} (h : MayT T) {k : Nat} (hk : k < (tx T).length) (hp : (tx T)[k] = 112) (he : parE ⟨((tx T).take k ++ 112 :: (tx T).drop k).toArray⟩ = 0) : (parT ⟨((tx T).take k ++ 112 :: (tx T).drop k).toArray⟩).length = (lay T).length + 1 := by
  obtain ⟨m, h1, h2⟩ := pre_run h (k := k)
  rw [List.drop_eq_getElem_cons hk, hp] at h2
  unfold brun at h2
  split at h2
  · rename_i hc
    -- the letter, and once more
    have hm : ∃ t op f, m = ⟨t, op, false, f⟩ ∧ (112 : Int) = letter op.length ∧ (op = [] → t = []) := by
      obtain ⟨t, op, o, f⟩ := m
      cases o with
      | true => exact absurd (tk_opens hc) (by decide)
      | false =>
        rcases tk_else hc with ⟨e, _⟩ | ⟨g1, g2⟩
        · exact absurd e (by decide)
        · exact ⟨t, op, f, rfl, g1, g2⟩
    obtain ⟨t, op, f, rfl, g1, g2⟩ := hm
    have hol : ¬ (op.length : Int) < 3 := by
      intro e
      unfold letter at g1
      split at g1
      · cases g1
      · split at g1
        · cases g1
        · split at g1
          · cases g1
          · omega
    have hone : op ≠ [] := fun e => by rw [e] at hol; simp at hol
    have g3 : (((112 : UInt8).toNat : Nat) : Int) = letter op.length := g1
    have k1 : tk ⟨t, op, false, f⟩ 112 = (⟨t ++ [(lastI op, (op.length : Int))], op, false, false⟩, true) := by
      rw [tk_vtx g3 g2, decide_eq_false hol]
    have k2 : tk ⟨t ++ [(lastI op, (op.length : Int))], op, false, false⟩ 112 = (⟨t ++ [(lastI op, (op.length : Int))] ++ [(lastI op, (op.length : Int))], op, false, false⟩, true) := by
      rw [tk_vtx g3 (fun e => absurd e hone), decide_eq_false hol]
    rw [k1] at h2
    have hsh : Sh ⟨t ++ [(lastI op, (op.length : Int))], op, false, false⟩ ⟨t ++ [(lastI op, (op.length : Int))] ++ [(lastI op, (op.length : Int))], op, false, false⟩ := ⟨by simp, rfl, rfl, rfl, by simp⟩
    obtain ⟨x', j1, j2⟩ := hsh.run (q := 0 + ((tx T).take k).length + 1 + 1) _ h2
    have hrun : brun 0 ((tx T).take k ++ 112 :: (tx T).drop k) rd0 = (none, x') := by
      rw [brun_app _ _ _ _ _ h1, brun_one k1, List.drop_eq_getElem_cons hk, hp, brun_one k2]
      exact j1
    obtain ⟨q1, _, q3⟩ := par_end (s := ⟨((tx T).take k ++ 112 :: (tx T).drop k).toArray⟩) ((run_list _).trans hrun)
    rw [he] at q3
    have hb : ¬ (x'.opens || decide ((x'.op.length : Int) > 0) || !decide (chk x'.t = 0)) = true := fun e => by rw [if_pos e] at q3; cases q3
    rw [if_neg hb] at q1
    rw [q1]
    exact j2.t
  · cases h2
end Go.Proofs.YtaaenepdhjdmlaaT
