/- Walks over the program's functions, on values without memory, and what they come to. No condition. -/
import Derived.Test.YtaaenepdhjdmlaaE4
set_option linter.unusedVariables false
set_option linter.unusedSimpArgs false
namespace Go.Proofs.YtaaenepdhjdmlaaT
open Go
set_option linter.unusedVariables false
/-- The bytes that a reader ever takes. -/
def okC (c : Int) : Prop := c = 40 ∨ c = 41 ∨ c = 109 ∨ c = 110 ∨ c = 99 ∨ c = 112
theorem letter_ok (k : Nat) : okC (letter k) := by
  unfold letter okC
  split
  · simp
  · split
    · simp
    · split <;> simp
theorem take_ok {r : Rd} {c : Int} (h : (takeF r c).2 = true) : okC c := by
  unfold takeF at h
  split at h
  · have : c = 40 := by simpa using h
    exact .inl this
  · split at h
    · rename_i h1; exact .inr (.inl h1.1)
    · split at h
      · cases h
      · rename_i h1
        have : c = letter r.op.length := Classical.byContradiction fun e => h1 (.inr e)
        rw [this]; exact letter_ok _
theorem take_bad {r : Rd} {c : Int} (h : ¬ okC c) : (takeF r c).2 = false := by
  cases hb : (takeF r c).2 with
  | false => rfl
  | true => exact absurd (take_ok hb) h
def tk (r : Rd) (b : UInt8) : Rd × Bool := takeF r (b.toNat : Int)
/-- The reader over bytes: where it stops, and what it is then. -/
def brun : Nat → List UInt8 → Rd → Option Nat × Rd
  | _, [], r => (none, r)
  | p, b :: l, r => if (tk r b).2 = true then brun (p + 1) l (tk r b).1 else (some p, r)
theorem decode_low {s : ByteArray} {p : Nat} (h : (s.get! p).toNat < 128) : Utf8.decode s p = ((s.get! p).toNat, 1) := by
  unfold Utf8.decode
  simp only [Nat.add_zero]
  rw [if_pos h]
theorem decode_high {s : ByteArray} {p : Nat} (h : ¬ (s.get! p).toNat < 128) : 128 ≤ (Utf8.decode s p).1 := by
  unfold Utf8.decode
  simp only [Nat.add_zero]
  rw [if_neg h]
  split
  · split
    · rename_i h1; exact h1
    · simp [Utf8.runeError]
  · split
    · split
      · rename_i h1; simp only [Bool.and_eq_true, decide_eq_true_eq] at h1; exact Nat.le_trans (by decide) h1.1
      · simp [Utf8.runeError]
    · split
      · split
        · rename_i h1; simp only [Bool.and_eq_true, decide_eq_true_eq] at h1; exact Nat.le_trans (by decide) h1.1
        · simp [Utf8.runeError]
      · simp [Utf8.runeError]
theorem not_ok_high {c : Nat} (h : 128 ≤ c) : ¬ okC (c : Int) := by unfold okC; omega
theorem get_at {s : ByteArray} {p : Nat} (h : p < s.size) : s.get! p = s.data.toList[p]'(by simpa using h) := by
  have h' : p < s.data.size := h
  show s.data[p]! = _
  rw [getElem!_pos s.data p h']
  simp
theorem runF_brun (s : ByteArray) : ∀ (f p : Nat) (r : Rd), s.size ≤ p + f → runF s f p r = brun p (s.data.toList.drop p) r
  | 0, p, r, h => by
    have : s.data.toList.drop p = [] := List.drop_eq_nil_of_le (by have : s.data.toList.length = s.size := by rw [Array.length_toList]; rfl
                                                                   omega)
    rw [this]; rfl
  | f + 1, p, r, h => by
    by_cases hp : p < s.size
    · have hl : p < s.data.toList.length := by simpa using hp
      rw [List.drop_eq_getElem_cons hl]
      unfold runF brun
      rw [if_pos hp]
      have hg := get_at hp
      unfold tk
      rw [← hg]
      by_cases hb : (s.get! p).toNat < 128
      · rw [decode_low hb]
        dsimp only
        rw [runF_brun s f (p + 1) _ (by omega)]
      · have h1 := take_bad (r := r) (not_ok_high (decode_high hb))
        have h2 := take_bad (r := r) (not_ok_high (c := (s.get! p).toNat) (by omega))
        rw [h1, h2]
        rfl
    · have : s.data.toList.drop p = [] := List.drop_eq_nil_of_le (by have : s.data.toList.length = s.size := by rw [Array.length_toList]; rfl
                                                                     omega)
      rw [this]
      unfold runF
      rw [if_neg hp]; rfl
theorem runF_all (s : ByteArray) : runF s s.size 0 rd0 = brun 0 s.data.toList rd0 := by
  rw [runF_brun s s.size 0 rd0 (by omega)]; rfl
theorem brun_app : ∀ (a b : List UInt8) (p : Nat) (r r' : Rd), brun p a r = (none, r') → brun p (a ++ b) r = brun (p + a.length) b r'
  | [], b, p, r, r', h => by
    simp only [brun, Prod.mk.injEq] at h
    rw [h.2]; rfl
  | c :: a, b, p, r, r', h => by
    unfold brun at h
    split at h
    · rename_i hc
      show (if (tk r c).2 = true then _ else _) = _
      rw [if_pos hc]
      rw [show p + (c :: a).length = p + 1 + a.length by simp; omega]
      exact brun_app a b (p + 1) _ r' h
    · cases h
/-- What a begin comes to, if the whole is taken. -/
theorem brun_pre : ∀ (a b : List UInt8) (p : Nat) (r r' : Rd), brun p (a ++ b) r = (none, r') → ∃ m, brun p a r = (none, m) ∧ brun (p + a.length) b m = (none, r')
  | [], b, p, r, r', h => ⟨r, rfl, h⟩
  | c :: a, b, p, r, r', h => by
    have h' : brun p (c :: (a ++ b)) r = (none, r') := h
    unfold brun at h'
    split at h'
    · rename_i hc
      obtain ⟨m, h1, h2⟩ := brun_pre a b (p + 1) _ r' h'
      refine ⟨m, ?_, ?_⟩
      · show (if (tk r c).2 = true then _ else _) = _
        rw [if_pos hc]; exact h1
      · rw [show p + (c :: a).length = p + 1 + a.length by simp; omega]; exact h2
    · cases h'
/-- A reader that is through: nothing more is taken. -/
def Rd.done (r : Rd) : Prop := r.opens = false ∧ r.op = [] ∧ r.t ≠ []
theorem take_done {r : Rd} (h : r.done) (c : Int) : (takeF r c).2 = false := by
  obtain ⟨h1, h2, h3⟩ := h
  unfold takeF
  rw [h1, if_neg (by decide), if_neg (fun e => e.2.1 h2), if_pos (.inl ⟨h2, h3⟩)]
theorem tk_t {r : Rd} {b : UInt8} : r.t.length ≤ (tk r b).1.t.length := by
  unfold tk takeF
  split
  · exact Nat.le_refl _
  · split
    · exact Nat.le_refl _
    · split
      · exact Nat.le_refl _
      · show r.t.length ≤ (r.t ++ _).length
        simp
end Go.Proofs.YtaaenepdhjdmlaaT

namespace Go.Proofs.YtaaenepdhjdmlaaT
open Go
set_option linter.unusedVariables false
def txC (c : Nat) : List UInt8 := 99 :: 40 :: (List.replicate c 112 ++ [41])
def txN (n : List Nat) : List UInt8 := 110 :: 40 :: (n.flatMap txC ++ [41])
def tx (T : List (List Nat)) : List UInt8 := 109 :: 40 :: (T.flatMap txN ++ [41])
def layC (b k : Int) (c : Nat) : List (Int × Int) := (b, 2) :: List.replicate c (k, 3)
def layCs (b : Int) : Int → List Nat → List (Int × Int)
  | _, [] => []
  | k, c :: cs => layC b k c ++ layCs b (k + 1 + c) cs
def szN (cs : List Nat) : Nat := 1 + (cs.length + cs.sum)
def layN (a k : Int) (cs : List Nat) : List (Int × Int) := (a, 1) :: layCs k (k + 1) cs
def layNs (a : Int) : Int → List (List Nat) → List (Int × Int)
  | _, [] => []
  | k, n :: ns => layN a k n ++ layNs a (k + szN n) ns
def lay (T : List (List Nat)) : List (Int × Int) := (-1, 0) :: layNs 0 1 T
/-- A machine's shape that may be read: nothing that isn't a processor is without one below. -/
def okN (cs : List Nat) : Prop := cs ≠ [] ∧ ∀ c ∈ cs, 0 < c
def okT (T : List (List Nat)) : Prop := ∀ n ∈ T, okN n
theorem layC_len (b k : Int) (c : Nat) : (layC b k c).length = 1 + c := by simp [layC]; omega
theorem layCs_len (b : Int) : ∀ (cs : List Nat) (k : Int), (layCs b k cs).length = cs.length + cs.sum
  | [], k => rfl
  | c :: cs, k => by simp only [layCs, List.length_append, layC_len, layCs_len b cs, List.length_cons, List.sum_cons]; omega
theorem layN_len (a k : Int) (cs : List Nat) : (layN a k cs).length = szN cs := by simp only [layN, List.length_cons, layCs_len, szN]; omega
theorem layNs_len (a : Int) : ∀ (T : List (List Nat)) (k : Int), (layNs a k T).length = (T.map szN).sum
  | [], k => rfl
  | n :: T, k => by simp only [layNs, List.length_append, layN_len, layNs_len a T, List.map_cons, List.sum_cons]
theorem layCs_app (b : Int) : ∀ (cs ds : List Nat) (k : Int), layCs b k (cs ++ ds) = layCs b k cs ++ layCs b (k + (cs.length + cs.sum : Nat)) ds
  | [], ds, k => by simp [layCs]
  | c :: cs, ds, k => by
    simp only [List.cons_append, layCs, List.append_assoc, layCs_app b cs ds, List.length_cons, List.sum_cons]
    congr 3; omega
theorem layNs_app (a : Int) : ∀ (T U : List (List Nat)) (k : Int), layNs a k (T ++ U) = layNs a k T ++ layNs a (k + ((T.map szN).sum : Nat)) U
  | [], U, k => by simp [layNs]
  | n :: T, U, k => by
    simp only [List.cons_append, layNs, List.append_assoc, layNs_app a T U, List.map_cons, List.sum_cons]
    congr 3; omega
-- one byte
theorem tk_open {t : List (Int × Int)} {op : List Int} {f : Bool} : tk ⟨t, op, true, f⟩ 40 = (⟨t, op ++ [(t.length : Int) - 1], false, true⟩, true) := rfl
theorem tk_close {t : List (Int × Int)} {op : List Int} (h : op ≠ []) : tk ⟨t, op, false, false⟩ 41 = (⟨t, op.take (op.length - 1), false, false⟩, true) := by
  unfold tk takeF
  dsimp only
  rw [if_neg (by decide), if_pos ⟨rfl, h, rfl⟩]
theorem tk_vtx {t : List (Int × Int)} {op : List Int} {f : Bool} {b : UInt8} (h : (b.toNat : Int) = letter op.length) (h2 : op = [] → t = []) : tk ⟨t, op, false, f⟩ b = (⟨t ++ [(lastI op, (op.length : Int))], op, decide ((op.length : Int) < 3), false⟩, true) := by
  unfold tk takeF
  dsimp only
  have h41 : (b.toNat : Int) ≠ 41 := by
    rw [h]; unfold letter; split
    · decide
    · split
      · decide
      · split <;> decide
  rw [if_neg (by decide), if_neg (fun e => h41 e.1), if_neg (by rintro (⟨h3, h4⟩ | h3); exact h4 (h2 h3); exact h3 h)]
  rfl
theorem brun_one {p : Nat} {b : UInt8} {l : List UInt8} {r r' : Rd} (h : tk r b = (r', true)) : brun p (b :: l) r = brun (p + 1) l r' := by
  show (if (tk r b).2 = true then _ else _) = _
  rw [h]; rfl
theorem run_ps (a b d : Int) : ∀ (c : Nat) (p : Nat) (t : List (Int × Int)) (f : Bool), brun p (List.replicate c 112) ⟨t, [a, b, d], false, f⟩ = (none, ⟨t ++ List.replicate c (d, 3), [a, b, d], false, if c = 0 then f else false⟩)
  | 0, p, t, f => by simp [brun]
  | c + 1, p, t, f => by
    rw [List.replicate_succ, brun_one (tk_vtx (op := [a, b, d]) rfl (fun e => by cases e)), List.replicate_succ (a := (d, 3))]
    have := run_ps a b d c (p + 1) (t ++ [(d, 3)]) false
    show brun (p + 1) (List.replicate c 112) ⟨t ++ [(d, 3)], [a, b, d], false, false⟩ = _
    rw [this]
    simp
theorem run_c (a b : Int) {c : Nat} (hc : 0 < c) (p : Nat) (t : List (Int × Int)) (f : Bool) : brun p (txC c) ⟨t, [a, b], false, f⟩ = (none, ⟨t ++ layC b t.length c, [a, b], false, false⟩) := by
  unfold txC layC
  rw [brun_one (tk_vtx (op := [a, b]) rfl (fun e => by cases e))]
  show brun (p + 1) _ ⟨t ++ [(b, 2)], [a, b], true, false⟩ = _
  rw [brun_one tk_open]
  have e : (((t ++ [(b, (2 : Int))]).length : Nat) : Int) - 1 = t.length := by simp
  rw [e]
  have h := run_ps a b t.length c (p + 1 + 1) (t ++ [(b, 2)]) true
  show brun (p + 1 + 1) _ ⟨t ++ [(b, 2)], [a, b, (t.length : Int)], false, true⟩ = _
  rw [brun_app _ _ _ _ _ h, if_neg (by omega), brun_one (tk_close (by simp))]
  simp [brun]
theorem run_cs (a b : Int) : ∀ (cs : List Nat), (∀ c ∈ cs, 0 < c) → ∀ (p : Nat) (t : List (Int × Int)) (f : Bool), brun p (cs.flatMap txC) ⟨t, [a, b], false, f⟩ = (none, ⟨t ++ layCs b t.length cs, [a, b], false, if cs = [] then f else false⟩)
  | [], _, p, t, f => by simp [brun, layCs]
  | c :: cs, h, p, t, f => by
    rw [List.flatMap_cons, brun_app _ _ _ _ _ (run_c a b (h c (by simp)) p t f), run_cs a b cs (fun x hx => h x (by simp [hx]))]
    simp only [layCs, List.length_append, layC_len]
    have e : (((t.length + (1 + c) : Nat)) : Int) = t.length + 1 + c := by omega
    rw [e]
    simp
theorem run_n (a : Int) {cs : List Nat} (hc : okN cs) (p : Nat) (t : List (Int × Int)) (f : Bool) : brun p (txN cs) ⟨t, [a], false, f⟩ = (none, ⟨t ++ layN a t.length cs, [a], false, false⟩) := by
  unfold txN layN
  rw [brun_one (tk_vtx (op := [a]) rfl (fun e => by cases e))]
  show brun (p + 1) _ ⟨t ++ [(a, 1)], [a], true, false⟩ = _
  rw [brun_one tk_open]
  have e : (((t ++ [(a, (1 : Int))]).length : Nat) : Int) - 1 = t.length := by simp
  rw [e]
  have h := run_cs a t.length cs hc.2 (p + 1 + 1) (t ++ [(a, 1)]) true
  show brun (p + 1 + 1) _ ⟨t ++ [(a, 1)], [a, (t.length : Int)], false, true⟩ = _
  rw [brun_app _ _ _ _ _ h, if_neg hc.1, brun_one (tk_close (by simp))]
  simp [brun]
theorem run_ns (a : Int) : ∀ (T : List (List Nat)), okT T → ∀ (p : Nat) (t : List (Int × Int)) (f : Bool), brun p (T.flatMap txN) ⟨t, [a], false, f⟩ = (none, ⟨t ++ layNs a t.length T, [a], false, if T = [] then f else false⟩)
  | [], _, p, t, f => by simp [brun, layNs]
  | n :: T, h, p, t, f => by
    rw [List.flatMap_cons, brun_app _ _ _ _ _ (run_n a (h n (by simp)) p t f), run_ns a T (fun x hx => h x (by simp [hx]))]
    simp only [layNs, List.length_append, layN_len]
    have e : (((t.length + szN n : Nat)) : Int) = t.length + szN n := by omega
    rw [e]
    simp
theorem run_tx {T : List (List Nat)} (h : okT T) (hn : T ≠ []) : brun 0 (tx T) rd0 = (none, ⟨lay T, [], false, false⟩) := by
  unfold tx lay rd0
  rw [brun_one (tk_vtx (op := []) rfl (fun _ => rfl))]
  show brun (0 + 1) _ ⟨[(-1, 0)], [], true, false⟩ = _
  rw [brun_one tk_open]
  have h := run_ns 0 T h (0 + 1 + 1) [(-1, 0)] true
  show brun (0 + 1 + 1) _ ⟨[(-1, 0)], [0], false, true⟩ = _
  rw [brun_app _ _ _ _ _ h, if_neg hn, brun_one (tk_close (by simp))]
  simp [brun]
-- and back
inductive AtR : List UInt8 → Rd → Prop
  | s0 : AtR [] rd0
  | s1 : AtR [109] ⟨[(-1, 0)], [], true, false⟩
  | s2 (T) (h : okT T) : AtR (109 :: 40 :: T.flatMap txN) ⟨(-1, 0) :: layNs 0 1 T, [0], false, decide (T = [])⟩
  | s3 (T) (h : okT T) : AtR (109 :: 40 :: (T.flatMap txN ++ [110])) ⟨(-1, 0) :: layNs 0 1 T ++ [(0, 1)], [0], true, false⟩
  | s4 (T cs) (h : okT T) (hc : ∀ c ∈ cs, 0 < c) : AtR (109 :: 40 :: (T.flatMap txN ++ 110 :: 40 :: cs.flatMap txC)) ⟨(-1, 0) :: layNs 0 1 T ++ (0, 1) :: layCs ((T.map szN).sum + 1 : Nat) ((T.map szN).sum + 2 : Nat) cs, [0, ((T.map szN).sum + 1 : Nat)], false, decide (cs = [])⟩
  | s5 (T cs) (h : okT T) (hc : ∀ c ∈ cs, 0 < c) : AtR (109 :: 40 :: (T.flatMap txN ++ 110 :: 40 :: (cs.flatMap txC ++ [99]))) ⟨(-1, 0) :: layNs 0 1 T ++ (0, 1) :: layCs ((T.map szN).sum + 1 : Nat) ((T.map szN).sum + 2 : Nat) cs ++ [((((T.map szN).sum + 1 : Nat) : Int), (2 : Int))], [0, ((T.map szN).sum + 1 : Nat)], true, false⟩
  | s6 (T cs) (c : Nat) (h : okT T) (hc : ∀ c ∈ cs, 0 < c) : AtR (109 :: 40 :: (T.flatMap txN ++ 110 :: 40 :: (cs.flatMap txC ++ 99 :: 40 :: List.replicate c 112))) ⟨(-1, 0) :: layNs 0 1 T ++ (0, 1) :: layCs ((T.map szN).sum + 1 : Nat) ((T.map szN).sum + 2 : Nat) cs ++ ((((T.map szN).sum + 1 : Nat) : Int), (2 : Int)) :: List.replicate c ((((T.map szN).sum + 2 + cs.length + cs.sum : Nat) : Int), (3 : Int)), [0, ((T.map szN).sum + 1 : Nat), ((T.map szN).sum + 2 + cs.length + cs.sum : Nat)], false, decide (c = 0)⟩
  | s7 (T) (h : okT T) (hn : T ≠ []) : AtR (tx T) ⟨lay T, [], false, false⟩
theorem tk_opens {t : List (Int × Int)} {op : List Int} {f : Bool} {b : UInt8} (h : (tk ⟨t, op, true, f⟩ b).2 = true) : b = 40 := by
  unfold tk takeF at h
  dsimp only at h
  rw [if_pos rfl] at h
  have : (b.toNat : Int) = 40 := by simpa using h
  exact UInt8.toNat_inj.1 (by show b.toNat = 40; omega)
theorem u8_of {b c : UInt8} (h : (b.toNat : Int) = (c.toNat : Int)) : b = c := UInt8.toNat_inj.1 (by omega)
/-- What is taken where nothing is to be opened: the end of what is open, or the letter of its level. -/
theorem tk_else {t : List (Int × Int)} {op : List Int} {f : Bool} {b : UInt8} (h : (tk ⟨t, op, false, f⟩ b).2 = true) : (b = 41 ∧ op ≠ [] ∧ f = false) ∨ ((b.toNat : Int) = letter op.length ∧ (op = [] → t = [])) := by
  unfold tk takeF at h
  dsimp only at h
  rw [if_neg (by decide)] at h
  split at h
  · rename_i h1
    exact .inl ⟨u8_of (c := 41) h1.1, h1.2⟩
  · split at h
    · cases h
    · rename_i h1
      refine .inr ⟨Classical.byContradiction fun e => h1 (.inr e), fun e => Classical.byContradiction fun e2 => h1 (.inl ⟨e, e2⟩)⟩
theorem atR_step {l : List UInt8} {r : Rd} (h : AtR l r) {b : UInt8} (hb : (tk r b).2 = true) : AtR (l ++ [b]) (tk r b).1 := by
  cases h with
  | s0 =>
    rcases tk_else hb with ⟨_, h2, _⟩ | ⟨h1, _⟩
    · exact absurd rfl h2
    · have e : b = 109 := u8_of (c := 109) h1
      subst e
      exact .s1
  | s1 =>
    have e := tk_opens hb
    subst e
    exact .s2 [] (fun _ h => by cases h)
  | s2 T hT =>
    rcases tk_else hb with ⟨rfl, h2, h3⟩ | ⟨h1, _⟩
    · have hn : T ≠ [] := by simpa using h3
      rw [h3, tk_close h2]
      have := AtR.s7 T hT hn
      simpa [tx, lay] using this
    · have e : b = 110 := u8_of (c := 110) h1
      subst e
      rw [tk_vtx (op := [0]) rfl (fun e => by cases e)]
      have := AtR.s3 T hT
      simpa [lastI] using this
  | s3 T hT =>
    have e := tk_opens hb
    subst e
    rw [tk_open]
    have := AtR.s4 T [] hT (fun _ h => by cases h)
    have e : (((((-1, 0) :: layNs 0 1 T ++ [(0, 1)] : List (Int × Int)).length : Nat) : Int)) - 1 = ((T.map szN).sum + 1 : Nat) := by
      simp [layNs_len]
    rw [e]
    simpa [layCs] using this
  | s4 T cs hT hc =>
    rcases tk_else hb with ⟨rfl, h2, h3⟩ | ⟨h1, _⟩
    · have hn : cs ≠ [] := by simpa using h3
      rw [h3, tk_close h2]
      have hT2 : okT (T ++ [cs]) := by
        intro n hn'
        rcases List.mem_append.1 hn' with h | h
        · exact hT n h
        · rw [List.mem_singleton.1 h]; exact ⟨hn, hc⟩
      have := AtR.s2 (T ++ [cs]) hT2
      have e1 : (1 : Int) + ((T.map szN).sum : Nat) = ((T.map szN).sum + 1 : Nat) := by omega
      have e2 : (((T.map szN).sum + 1 : Nat) : Int) + 1 = ((T.map szN).sum + 2 : Nat) := by omega
      simp only [List.flatMap_append, List.flatMap_cons, List.flatMap_nil, List.append_nil, layNs_app, layNs, layN, e1, e2] at this
      simpa [txN] using this
    · have e : b = 99 := u8_of (c := 99) h1
      subst e
      rw [tk_vtx (op := [0, _]) rfl (fun e => by cases e)]
      have := AtR.s5 T cs hT hc
      simpa [lastI] using this
  | s5 T cs hT hc =>
    have e := tk_opens hb
    subst e
    rw [tk_open]
    have := AtR.s6 T cs 0 hT hc
    have e : (((((-1, 0) :: layNs 0 1 T ++ (0, 1) :: layCs ((T.map szN).sum + 1 : Nat) ((T.map szN).sum + 2 : Nat) cs ++ [((((T.map szN).sum + 1 : Nat) : Int), (2 : Int))] : List (Int × Int)).length : Nat) : Int)) - 1 = ((T.map szN).sum + 2 + cs.length + cs.sum : Nat) := by
      simp only [List.length_append, List.length_cons, layNs_len, layCs_len, List.length_nil]; omega
    rw [e]
    simpa using this
  | s6 T cs c hT hc =>
    rcases tk_else hb with ⟨rfl, h2, h3⟩ | ⟨h1, _⟩
    · have hn : c ≠ 0 := by simpa using h3
      rw [h3, tk_close h2]
      have hc2 : ∀ x ∈ cs ++ [c], 0 < x := by
        intro x hx
        rcases List.mem_append.1 hx with h | h
        · exact hc x h
        · rw [List.mem_singleton.1 h]; omega
      have := AtR.s4 T (cs ++ [c]) hT hc2
      have e2 : (((T.map szN).sum + 2 : Nat) : Int) + (cs.length + cs.sum : Nat) = ((T.map szN).sum + 2 + cs.length + cs.sum : Nat) := by omega
      simp only [List.flatMap_append, List.flatMap_cons, List.flatMap_nil, List.append_nil, layCs_app, layCs, layC, e2] at this
      simpa [txC] using this
    · have e : b = 112 := u8_of (c := 112) h1
      subst e
      rw [tk_vtx (op := [0, _, _]) rfl (fun e => by cases e)]
      have := AtR.s6 T cs (c + 1) hT hc
      rw [List.replicate_succ', List.replicate_succ'] at this
      simpa [lastI] using this
  | s7 T hT hn =>
    rw [show tk ⟨lay T, [], false, false⟩ b = takeF ⟨lay T, [], false, false⟩ b.toNat from rfl, take_done ⟨rfl, rfl, by simp [lay]⟩] at hb
    cases hb
theorem atR_run : ∀ (l : List UInt8) {l0 : List UInt8} {r r' : Rd} {p : Nat}, AtR l0 r → brun p l r = (none, r') → AtR (l0 ++ l) r'
  | [], l0, r, r', p, h, hb => by
    simp only [brun, Prod.mk.injEq] at hb
    rw [List.append_nil, ← hb.2]; exact h
  | b :: l, l0, r, r', p, h, hb => by
    unfold brun at hb
    split at hb
    · rename_i h1
      have := atR_run l (atR_step h h1) hb
      simpa using this
    · cases hb
/-- What was taken to its end is a machine's text. -/
theorem run_back {l : List UInt8} {r : Rd} {p : Nat} (h : brun p l rd0 = (none, r)) (hd : r.done) : ∃ T, okT T ∧ T ≠ [] ∧ l = tx T ∧ r = ⟨lay T, [], false, false⟩ := by
  have ha := atR_run l AtR.s0 h
  rw [List.nil_append] at ha
  cases ha with
  | s0 => exact absurd rfl hd.2.2
  | s1 => exact absurd hd.1 (by decide)
  | s2 => exact absurd hd.2.1 (by simp)
  | s3 => exact absurd hd.2.1 (by simp)
  | s4 => exact absurd hd.2.1 (by simp)
  | s5 => exact absurd hd.2.1 (by simp)
  | s6 => exact absurd hd.2.1 (by simp)
  | s7 T hT hn => exact ⟨T, hT, hn, rfl, rfl⟩
end Go.Proofs.YtaaenepdhjdmlaaT

namespace Go.Proofs.YtaaenepdhjdmlaaT
open Go
set_option linter.unusedVariables false
/-- The places, from b on, of those below v. -/
def kf : List (Int × Int) → Int → Int → List Int
  | [], _, _ => []
  | x :: l, b, v => (if x.1 = v then [b] else []) ++ kf l (b + 1) v
theorem kf_app : ∀ (l m : List (Int × Int)) (b v : Int), kf (l ++ m) b v = kf l b v ++ kf m (b + l.length) v
  | [], m, b, v => by simp [kf]
  | x :: l, m, b, v => by
    simp only [List.cons_append, kf, kf_app l m, List.append_assoc, List.length_cons]
    congr 3; omega
theorem idxs_congr {n : Nat} {p q : Nat → Bool} (h : ∀ i < n, p i = q i) : idxs n p = idxs n q := by
  unfold idxs
  congr 1
  exact List.filter_congr fun i hi => h i (List.mem_range.1 hi)
theorem kids_kf_take (t : List (Int × Int)) (v : Int) : ∀ n, n ≤ t.length → idxs n (fun i => decide (par t i = v)) = kf (t.take n) 0 v
  | 0, _ => by simp [idxs, kf]
  | n + 1, h => by
    have hn : n < t.length := by omega
    rw [idxs_succ, kids_kf_take t v n (by omega), List.take_succ_eq_append_getElem hn, kf_app]
    have hp : par t n = (t[n]).1 := by unfold par; rw [List.getD_eq_getElem?_getD, List.getElem?_eq_getElem hn]; rfl
    simp only [kf, hp, List.length_take, Nat.min_eq_left (Nat.le_of_lt hn), decide_eq_true_eq, List.append_nil]
    simp
theorem kids_kf (t : List (Int × Int)) (v : Int) : kidsL t v = kf t 0 v := by
  unfold kidsL
  rw [kids_kf_take t v t.length (Nat.le_refl _), List.take_length]
def iota (k : Int) (c : Nat) : List Int := (List.range c).map fun (i : Nat) => k + (i : Int)
theorem iota_succ (k : Int) (c : Nat) : iota k (c + 1) = k :: iota (k + 1) c := by
  unfold iota
  rw [List.range_succ_eq_map, List.map_cons, List.map_map]
  congr 1
  · simp
  · apply List.map_congr_left; intro i _; simp only [Function.comp, Nat.succ_eq_add_one]; omega
theorem iota_len (k : Int) (c : Nat) : (iota k c).length = c := by simp [iota]
theorem kf_rep (k : Int) (l : Int) : ∀ (c : Nat) (b v : Int), kf (List.replicate c (k, l)) b v = if k = v then iota b c else []
  | 0, b, v => by simp [kf, iota]
  | c + 1, b, v => by
    rw [List.replicate_succ]
    simp only [kf]
    rw [kf_rep k l c]
    by_cases h : k = v
    · rw [if_pos h, if_pos h, if_pos h, iota_succ]; rfl
    · rw [if_neg h, if_neg h, if_neg h]; rfl
theorem kf_c (b k : Int) (c : Nat) (v : Int) : kf (layC b k c) k v = (if b = v then [k] else []) ++ (if k = v then iota (k + 1) c else []) := by
  simp only [layC, kf, kf_rep]
def cix : Int → List Nat → List Int
  | _, [] => []
  | k, c :: cs => k :: cix (k + 1 + c) cs
def kc : Int → List Nat → Int → List Int
  | _, [], _ => []
  | k, c :: cs, v => (if k = v then iota (k + 1) c else []) ++ kc (k + 1 + c) cs v
theorem cix_len : ∀ (k : Int) (cs : List Nat), (cix k cs).length = cs.length
  | k, [] => rfl
  | k, c :: cs => by simp [cix, cix_len]
theorem cix_ge : ∀ (cs : List Nat) (k x : Int), x ∈ cix k cs → k ≤ x ∧ x < k + (cs.length + cs.sum : Nat)
  | [], k, x, h => by simp [cix] at h
  | c :: cs, k, x, h => by
    simp only [cix, List.mem_cons] at h
    simp only [List.length_cons, List.sum_cons]
    rcases h with rfl | h
    · omega
    · have := cix_ge cs _ x h; omega
theorem kc_low : ∀ (cs : List Nat) (k v : Int), v < k → kc k cs v = []
  | [], k, v, h => rfl
  | c :: cs, k, v, h => by simp only [kc]; rw [if_neg (by omega), kc_low cs _ v (by omega)]; rfl
theorem kc_high : ∀ (cs : List Nat) (k v : Int), k + (cs.length + cs.sum : Nat) ≤ v → kc k cs v = []
  | [], k, v, h => rfl
  | c :: cs, k, v, h => by
    simp only [List.length_cons, List.sum_cons] at h
    simp only [kc]; rw [if_neg (by omega), kc_high cs _ v (by omega)]; rfl
theorem kf_cs : ∀ (cs : List Nat) (b k v : Int), b < k → kf (layCs b k cs) k v = if b = v then cix k cs else kc k cs v
  | [], b, k, v, h => by simp [layCs, kf, cix, kc]
  | c :: cs, b, k, v, h => by
    simp only [layCs, kf_app, kf_c, layC_len]
    have e : k + ((1 + c : Nat) : Int) = k + 1 + c := by omega
    rw [e, kf_cs cs b (k + 1 + c) v (by omega)]
    by_cases hb : b = v
    · rw [if_pos hb, if_pos hb, if_pos hb, if_neg (by omega)]; simp [cix]
    · rw [if_neg hb, if_neg hb, if_neg hb]; simp [kc]
theorem kc_at : ∀ (cs : List Nat) (k : Int), (cix k cs).map (fun x => (kc k cs x).length) = cs
  | [], k => rfl
  | c :: cs, k => by
    simp only [cix, List.map_cons, kc]
    rw [if_pos trivial, kc_low cs (k + 1 + c) k (by omega), List.append_nil, iota_len]
    congr 1
    refine Eq.trans (List.map_congr_left fun x hx => ?_) (kc_at cs (k + 1 + c))
    have := cix_ge cs _ x hx
    rw [if_neg (by omega)]; rfl
theorem kf_n (a k : Int) (cs : List Nat) (v : Int) (h : a < k) : kf (layN a k cs) k v = (if a = v then [k] else []) ++ (if k = v then cix (k + 1) cs else kc (k + 1) cs v) := by
  simp only [layN, kf, kf_cs cs k (k + 1) v (by omega)]
def nix : Int → List (List Nat) → List Int
  | _, [] => []
  | k, n :: T => k :: nix (k + szN n) T
theorem nix_len : ∀ (k : Int) (T : List (List Nat)), (nix k T).length = T.length
  | k, [] => rfl
  | k, n :: T => by simp [nix, nix_len]
theorem szN_pos (n : List Nat) : 1 ≤ szN n := by unfold szN; omega
theorem nix_ge : ∀ (T : List (List Nat)) (k x : Int), x ∈ nix k T → k ≤ x
  | [], k, x, h => by simp [nix] at h
  | n :: T, k, x, h => by
    simp only [nix, List.mem_cons] at h
    rcases h with rfl | h
    · exact Int.le_refl _
    · have := nix_ge T _ x h; have := szN_pos n; omega
/-- Those below v, in the vertices of nodes that stand from k on. -/
def kn : Int → List (List Nat) → Int → List Int
  | _, [], _ => []
  | k, n :: T, v => (if k = v then cix (k + 1) n else kc (k + 1) n v) ++ kn (k + szN n) T v
theorem kf_ns : ∀ (T : List (List Nat)) (a k v : Int), a < k → kf (layNs a k T) k v = if a = v then nix k T else kn k T v
  | [], a, k, v, h => by simp [layNs, kf, nix, kn]
  | n :: T, a, k, v, h => by
    simp only [layNs, kf_app, kf_n a k n v h, layN_len]
    have := szN_pos n
    rw [kf_ns T a (k + szN n) v (by omega)]
    by_cases ha : a = v
    · rw [if_pos ha, if_pos ha, if_pos ha, if_neg (by omega), kc_low _ _ _ (by omega)]; simp [nix]
    · rw [if_neg ha, if_neg ha, if_neg ha]; simp [kn]
theorem kn_low : ∀ (T : List (List Nat)) (k v : Int), v < k → kn k T v = []
  | [], k, v, h => rfl
  | n :: T, k, v, h => by
    have := szN_pos n
    simp only [kn]; rw [if_neg (by omega), kc_low _ _ _ (by omega), kn_low T _ v (by omega)]; rfl
theorem kids_lay0 (T : List (List Nat)) : kidsL (lay T) 0 = nix 1 T := by
  rw [kids_kf]
  unfold lay
  simp only [kf]
  rw [if_neg (by decide)]
  show [] ++ kf (layNs 0 1 T) 1 0 = _
  rw [kf_ns T 0 1 0 (by decide), if_pos rfl]; rfl
theorem kids_lay {T : List (List Nat)} {v : Int} (h : 1 ≤ v) : kidsL (lay T) v = kn 1 T v := by
  rw [kids_kf]
  unfold lay
  simp only [kf]
  rw [if_neg (by omega)]
  show [] ++ kf (layNs 0 1 T) 1 v = _
  rw [kf_ns T 0 1 v (by decide), if_neg (by omega)]; rfl
def shape (t : List (Int × Int)) : List (List Nat) := (kidsL t 0).map fun n => (kidsL t n).map fun c => (kidsL t c).length
theorem cix_sz {n : List Nat} {k x : Int} (h : x ∈ cix (k + 1) n) : k + 1 ≤ x ∧ x < k + szN n := by
  have := cix_ge n _ x h
  unfold szN; omega
theorem kn_shape : ∀ (T : List (List Nat)) (k : Int), (nix k T).map (fun n => (kn k T n).map fun c => (kn k T c).length) = T
  | [], k => rfl
  | n :: T, k => by
    have hz := szN_pos n
    simp only [nix, List.map_cons]
    have e1 : ∀ v, v < k + szN n → kn k (n :: T) v = if k = v then cix (k + 1) n else kc (k + 1) n v := fun v hv => by
      simp only [kn]; rw [kn_low T _ v hv, List.append_nil]
    have e2 : ∀ v, k + szN n ≤ v → kn k (n :: T) v = kn (k + szN n) T v := fun v hv => by
      simp only [kn]; rw [if_neg (by omega), kc_high _ _ _ (by unfold szN at hv; omega)]; rfl
    congr 1
    · rw [e1 k (by omega), if_pos rfl]
      refine Eq.trans (List.map_congr_left fun x hx => ?_) (kc_at n (k + 1))
      have := cix_sz hx
      rw [e1 x this.2, if_neg (by omega)]
    · refine Eq.trans (List.map_congr_left fun x hx => ?_) (kn_shape T (k + szN n))
      have hx' := nix_ge T _ x hx
      rw [e2 x hx']
      refine List.map_congr_left fun y hy => ?_
      have : ∀ (T : List (List Nat)) (k v y : Int), k ≤ v → y ∈ kn k T v → k ≤ y := by
        intro T
        induction T with
        | nil => intro k v y _ h; simp [kn] at h
        | cons m T ih =>
          intro k v y hv h
          have hm := szN_pos m
          simp only [kn, List.mem_append] at h
          rcases h with h | h
          · split at h
            · have := cix_ge _ _ _ h; omega
            · by_cases h2 : k + szN m ≤ v
              · rw [kc_high _ _ _ (by unfold szN at h2; omega)] at h; cases h
              · have : ∀ (cs : List Nat) (k v y : Int), y ∈ kc k cs v → k ≤ y := by
                  intro cs
                  induction cs with
                  | nil => intro k v y h; simp [kc] at h
                  | cons c cs ih2 =>
                    intro k v y h
                    simp only [kc, List.mem_append] at h
                    rcases h with h | h
                    · split at h
                      · simp only [iota, List.mem_map] at h
                        obtain ⟨i, _, rfl⟩ := h; omega
                      · cases h
                    · have := ih2 _ _ _ h; omega
                have := this m (k + 1) v y h; omega
          · by_cases h2 : k + szN m ≤ v
            · have := ih _ _ _ h2 h; omega
            · rw [kn_low T _ v (by omega)] at h; cases h
      rw [e2 y (this T _ x y hx' hy)]
/-- The shape of what a machine's text is read to. -/
theorem shape_lay (T : List (List Nat)) : shape (lay T) = T := by
  unfold shape
  rw [kids_lay0]
  refine Eq.trans (List.map_congr_left fun n hn => ?_) (kn_shape T 1)
  have h1 := nix_ge T 1 n hn
  rw [kids_lay h1]
  refine List.map_congr_left fun c hc => ?_
  have h2 : 1 ≤ c := by
    rw [← kids_lay h1] at hc
    obtain ⟨i, rfl, hi, hp⟩ := kid_mem.1 hc
    rcases Nat.eq_zero_or_pos i with e | e
    · subst e
      have : par (lay T) 0 = -1 := rfl
      omega
    · omega
  rw [kids_lay h2]
end Go.Proofs.YtaaenepdhjdmlaaT

namespace Go.Proofs.YtaaenepdhjdmlaaT
open Go
set_option linter.unusedVariables false
structure UpT (t : List (Int × Int)) : Prop where
  pos : 0 < t.length
  root : par t 0 = -1 ∧ lev t 0 = 0
  up : ∀ i, 0 < i → i < t.length → 0 ≤ par t i ∧ par t i < i ∧ lev t i = lev t (par t i).toNat + 1
  lv : ∀ i < t.length, 0 ≤ lev t i ∧ lev t i ≤ 3
theorem Tree.upT {t : List (Int × Int)} (h : Tree t) : UpT t := ⟨h.pos, h.root, h.up, h.lv⟩
def sumI (f : Int → Nat) (l : List Int) : Nat := (l.map f).sum
theorem sumI_app (f : Int → Nat) (a b : List Int) : sumI f (a ++ b) = sumI f a + sumI f b := by simp [sumI]
theorem sumI_or (f : Int → Nat) (p q : Nat → Bool) : ∀ n, (∀ i < n, ¬ (p i = true ∧ q i = true)) → sumI f (idxs n p) + sumI f (idxs n q) = sumI f (idxs n fun i => p i || q i)
  | 0, _ => by simp [idxs, sumI]
  | n + 1, h => by
    rw [idxs_succ, idxs_succ, idxs_succ, sumI_app, sumI_app, sumI_app, ← sumI_or f p q n (fun i hi => h i (by omega))]
    have hn := h n (by omega)
    cases hp : p n <;> cases hq : q n
    · simp [sumI]
    · simp [sumI]; omega
    · simp [sumI]; omega
    · exact absurd ⟨hp, hq⟩ hn
theorem sumI_one (l : List Int) : sumI (fun _ => 1) l = l.length := by
  induction l with
  | nil => rfl
  | cons x l ih => simp only [sumI, List.map_cons, List.sum_cons, List.length_cons] at ih ⊢; omega
/-- Those below any of S, all together. -/
theorem sumK (t : List (Int × Int)) (f : Int → Nat) : ∀ (S : List Int), S.Nodup → (S.map fun s => sumI f (kidsL t s)).sum = sumI f (idxs t.length fun i => decide (par t i ∈ S))
  | [], _ => by
    have : idxs t.length (fun i => decide (par t i ∈ ([] : List Int))) = [] := by
      unfold idxs; rw [List.filter_eq_nil_iff.2 (by simp)]; rfl
    rw [this]; rfl
  | s :: S, h => by
    have hn := List.nodup_cons.1 h
    rw [List.map_cons, List.sum_cons, sumK t f S hn.2]
    unfold kidsL
    rw [sumI_or f _ _ t.length (fun i hi e => by
      simp only [decide_eq_true_eq] at e
      exact hn.1 (e.1 ▸ e.2))]
    congr 1
    refine idxs_congr fun i hi => ?_
    rw [Bool.eq_iff_iff]; simp
theorem idxs_nodup (n : Nat) (p : Nat → Bool) : (idxs n p).Nodup := by
  unfold idxs
  have h : ((List.range n).filter p).Nodup := List.nodup_range.sublist List.filter_sublist
  unfold List.Nodup at h ⊢
  rw [List.pairwise_map]
  exact h.imp (fun h e => h (Int.ofNat.inj e))
theorem UpT.lev_up {t : List (Int × Int)} (h : UpT t) {l : Int} (hl : 0 ≤ l) {i : Nat} (hi : i < t.length) : par t i ∈ levL t l ↔ lev t i = l + 1 := by
  rcases Nat.eq_zero_or_pos i with e | e
  · subst e
    have hr := h.root
    constructor
    · intro hm
      obtain ⟨j, hj, _⟩ := lev_mem.1 hm
      omega
    · intro hm; omega
  · obtain ⟨h1, h2, h3⟩ := h.up i e hi
    constructor
    · intro hm
      obtain ⟨j, hj, hjl, hjv⟩ := lev_mem.1 hm
      rw [h3, hj, Int.toNat_natCast, hjv]
    · intro hm
      exact lev_mem.2 ⟨(par t i).toNat, by omega, by omega, by omega⟩
theorem UpT.sum_lev {t : List (Int × Int)} (h : UpT t) (f : Int → Nat) {l : Int} (hl : 0 ≤ l) : ((levL t l).map fun s => sumI f (kidsL t s)).sum = sumI f (levL t (l + 1)) := by
  rw [sumK t f (levL t l) (idxs_nodup _ _)]
  congr 1
  refine idxs_congr fun i hi => ?_
  rw [Bool.eq_iff_iff, decide_eq_true_eq, decide_eq_true_eq]
  exact h.lev_up hl hi
theorem UpT.lev0 {t : List (Int × Int)} (h : UpT t) {i : Nat} (hi : i < t.length) : lev t i = 0 ↔ i = 0 := by
  constructor
  · intro e
    rcases Nat.eq_zero_or_pos i with e0 | e0
    · exact e0
    · obtain ⟨h1, h2, h3⟩ := h.up i e0 hi
      have := (h.lv (par t i).toNat (by omega)).1
      omega
  · rintro rfl; exact h.root.2
theorem UpT.lev1 {t : List (Int × Int)} (h : UpT t) : levL t 1 = kidsL t 0 := by
  refine idxs_congr fun i hi => ?_
  rw [Bool.eq_iff_iff, decide_eq_true_eq, decide_eq_true_eq]
  rw [show (1 : Int) = 0 + 1 from rfl, ← h.lev_up (Int.le_refl 0) hi]
  constructor
  · intro hm
    obtain ⟨j, hj, hjl, hjv⟩ := lev_mem.1 hm
    rw [(h.lev0 hjl).1 hjv] at hj
    exact hj
  · intro e
    exact lev_mem.2 ⟨0, by rw [e]; rfl, h.pos, h.root.2⟩
def cntN (T : List (List Nat)) : Nat := (T.map List.length).sum
def cntP (T : List (List Nat)) : Nat := (T.map List.sum).sum
theorem UpT.count {t : List (Int × Int)} (h : UpT t) : (levL t 1).length = (shape t).length ∧ (levL t 2).length = cntN (shape t) ∧ (levL t 3).length = cntP (shape t) ∧ t.length = 1 + (levL t 1).length + (levL t 2).length + (levL t 3).length := by
  have h1 : (levL t 1).length = (shape t).length := by rw [h.lev1]; simp [shape]
  have h2 : (levL t 2).length = cntN (shape t) := by
    rw [← sumI_one (levL t 2), show (2 : Int) = 1 + 1 from rfl, ← h.sum_lev _ (by decide), h.lev1]
    unfold cntN shape
    rw [List.map_map]
    congr 1
    refine List.map_congr_left fun n _ => ?_
    simp [sumI_one]
  have h3 : (levL t 3).length = cntP (shape t) := by
    rw [← sumI_one (levL t 3), show (3 : Int) = 2 + 1 from rfl, ← h.sum_lev _ (by decide)]
    have := h.sum_lev (fun c => sumI (fun _ => 1) (kidsL t c)) (l := 1) (by decide)
    show sumI (fun c => sumI (fun _ => 1) (kidsL t c)) (levL t (1 + 1)) = _
    rw [← this, h.lev1]
    unfold cntP shape
    rw [List.map_map]
    congr 1
    refine List.map_congr_left fun n _ => ?_
    simp only [Function.comp, sumI]
    congr 1
    refine List.map_congr_left fun c _ => ?_
    exact sumI_one _
  refine ⟨h1, h2, h3, ?_⟩
  have h0 : (levL t 0).length = 1 := by
    have : levL t 0 = [0] := by
      have : levL t 0 = idxs t.length (fun i => decide (i = 0)) := idxs_congr fun i hi => by
        rw [Bool.eq_iff_iff, decide_eq_true_eq, decide_eq_true_eq]; exact h.lev0 hi
      rw [this]
      obtain ⟨n, hn⟩ : ∃ n, t.length = n + 1 := ⟨t.length - 1, by have := h.pos; omega⟩
      rw [hn]
      unfold idxs
      rw [List.range_succ_eq_map, List.filter_cons_of_pos (by simp), List.filter_eq_nil_iff.2 (by simp)]
      rfl
    rw [this]; rfl
  have e1 := sumI_or (fun _ => 1) (fun i => decide (lev t i = 0)) (fun i => decide (lev t i = 1)) t.length (fun i _ e => by simp only [decide_eq_true_eq] at e; omega)
  have e2 := sumI_or (fun _ => 1) (fun i => decide (lev t i = 0) || decide (lev t i = 1)) (fun i => decide (lev t i = 2)) t.length (fun i _ e => by simp only [Bool.or_eq_true, decide_eq_true_eq] at e; omega)
  have e3 := sumI_or (fun _ => 1) (fun i => decide (lev t i = 0) || decide (lev t i = 1) || decide (lev t i = 2)) (fun i => decide (lev t i = 3)) t.length (fun i _ e => by simp only [Bool.or_eq_true, decide_eq_true_eq] at e; omega)
  have e4 : idxs t.length (fun i => decide (lev t i = 0) || decide (lev t i = 1) || decide (lev t i = 2) || decide (lev t i = 3)) = idxs t.length (fun _ => true) := idxs_congr fun i hi => by
    have := h.lv i hi
    simp only [Bool.or_eq_true, decide_eq_true_eq]; omega
  have e5 : (idxs t.length (fun _ => true)).length = t.length := by unfold idxs; rw [List.length_map, List.filter_eq_self.2 (by simp)]; simp
  rw [e4] at e3
  simp only [sumI_one] at e1 e2 e3
  unfold levL at h0 ⊢
  omega
theorem szN_sum : ∀ (T : List (List Nat)), (T.map szN).sum = T.length + cntN T + cntP T
  | [] => rfl
  | n :: T => by
    have := szN_sum T
    simp only [cntN, cntP, List.map_cons, List.sum_cons, List.length_cons, szN] at this ⊢
    omega
theorem lay_len (T : List (List Nat)) : (lay T).length = 1 + T.length + cntN T + cntP T := by
  unfold lay
  rw [List.length_cons, layNs_len, szN_sum]; omega
-- what a reader has read stands rightly
structure UpR (r : Rd) : Prop where
  root : 0 < r.t.length → par r.t 0 = -1 ∧ lev r.t 0 = 0
  up : ∀ i, 0 < i → i < r.t.length → 0 ≤ par r.t i ∧ par r.t i < i ∧ lev r.t i = lev r.t (par r.t i).toNat + 1
  lv : ∀ i < r.t.length, 0 ≤ lev r.t i ∧ lev r.t i ≤ 3
  op : ∀ (j : Nat) (h : j < r.op.length), 0 ≤ r.op[j] ∧ r.op[j] < r.t.length ∧ lev r.t (r.op[j]).toNat = j
  o3 : r.op.length ≤ 3
  opens : r.opens = true → 0 < r.t.length ∧ lev r.t (r.t.length - 1) = r.op.length ∧ r.op.length < 3
theorem par_app {t : List (Int × Int)} {x : Int × Int} {i : Nat} (h : i < t.length) : par (t ++ [x]) i = par t i ∧ lev (t ++ [x]) i = lev t i := by
  unfold par lev
  simp only [List.getD_eq_getElem?_getD, List.getElem?_append_left h, and_self]
theorem par_new {t : List (Int × Int)} {x : Int × Int} : par (t ++ [x]) t.length = x.1 ∧ lev (t ++ [x]) t.length = x.2 := by
  unfold par lev
  simp [List.getD_eq_getElem?_getD]
theorem UpR.tk {r : Rd} (h : UpR r) {b : UInt8} (hb : (tk r b).2 = true) : UpR (tk r b).1 := by
  obtain ⟨t, op, opens, fresh⟩ := r
  obtain ⟨h1, h2, h3, h4, h5, h6⟩ := h
  dsimp only at h1 h2 h3 h4 h5 h6
  cases opens with
  | true =>
    have e := tk_opens hb
    subst e
    rw [tk_open]
    obtain ⟨g1, g2, g3⟩ := h6 rfl
    refine ⟨h1, h2, h3, fun j hj => ?_, by simp only [List.length_append, List.length_cons, List.length_nil]; omega, fun e => by cases e⟩
    simp only [List.length_append, List.length_cons, List.length_nil] at hj
    by_cases hjl : j < op.length
    · simp only [List.getElem_append_left hjl]; exact h4 j hjl
    · have : j = op.length := by omega
      subst this
      simp only [List.getElem_append_right (Nat.le_refl _), Nat.sub_self, List.getElem_cons_zero]
      refine ⟨by omega, by omega, ?_⟩
      rw [show ((t.length : Int) - 1).toNat = t.length - 1 by omega]; exact g2
  | false =>
    rcases tk_else hb with ⟨rfl, g1, g2⟩ | ⟨g1, g2⟩
    · rw [g2, tk_close g1]
      refine ⟨h1, h2, h3, fun j hj => ?_, by simp only [List.length_take]; omega, fun e => by cases e⟩
      simp only [List.length_take] at hj
      simp only [List.getElem_take]
      exact h4 j (by omega)
    · rw [tk_vtx g1 g2]
      have hlast : op ≠ [] → ∃ q : Nat, lastI op = q ∧ q < t.length ∧ lev t q + 1 = op.length := fun hne => by
        have hl := List.length_pos_iff.2 hne
        obtain ⟨a, b, c⟩ := h4 (op.length - 1) (by omega)
        refine ⟨(lastI op).toNat, ?_, ?_, ?_⟩ <;> unfold lastI <;> rw [if_neg hne, getD_at (by omega)]
        · omega
        · omega
        · rw [c]; omega
      refine ⟨fun _ => ?_, fun i hi0 hi => ?_, fun i hi => ?_, fun j hj => ?_, h5, fun e => ?_⟩
      · by_cases ht : t = []
        · subst ht
          have hop : op = [] := by
            cases op with
            | nil => rfl
            | cons a l => have := h4 0 (by simp); simp at this; omega
          subst hop; exact ⟨rfl, rfl⟩
        · have hp := List.length_pos_iff.2 ht
          rw [(par_app hp).1, (par_app hp).2]; exact h1 hp
      · simp only [List.length_append, List.length_cons, List.length_nil] at hi
        by_cases hil : i < t.length
        · obtain ⟨a, b, c⟩ := h2 i hi0 hil
          rw [(par_app hil).1, (par_app hil).2, (par_app (show (par t i).toNat < t.length by omega)).2]
          exact ⟨a, b, c⟩
        · have : i = t.length := by omega
          subst this
          rw [par_new.1, par_new.2]
          have hne : op ≠ [] := fun e => by rw [g2 e] at hi0; simp at hi0
          obtain ⟨q, q1, q2, q3⟩ := hlast hne
          simp only [q1, Int.toNat_natCast]
          rw [(par_app q2).2]
          exact ⟨by omega, by omega, by omega⟩
      · simp only [List.length_append, List.length_cons, List.length_nil] at hi
        by_cases hil : i < t.length
        · rw [(par_app hil).2]; exact h3 i hil
        · have : i = t.length := by omega
          subst this
          rw [par_new.2]; dsimp only; omega
      · obtain ⟨a, b, c⟩ := h4 j hj
        refine ⟨a, by simp only [List.length_append, List.length_cons, List.length_nil]; omega, ?_⟩
        rw [(par_app (show (op[j]).toNat < t.length by omega)).2]; exact c
      · have e' : ((op.length : Int) < 3) := by simpa using e
        refine ⟨by simp, ?_, by show op.length < 3; omega⟩
        simp only [List.length_append, List.length_cons, List.length_nil, Nat.add_sub_cancel]
        rw [par_new.2]
theorem UpR.run : ∀ (l : List UInt8) {r r' : Rd} {p : Nat}, UpR r → brun p l r = (none, r') → UpR r'
  | [], r, r', p, h, hb => by
    simp only [brun, Prod.mk.injEq] at hb
    rw [← hb.2]; exact h
  | b :: l, r, r', p, h, hb => by
    unfold brun at hb
    split at hb
    · rename_i h1; exact UpR.run l (h.tk h1) hb
    · cases hb
theorem upR0 : UpR rd0 := ⟨fun h => absurd h (by decide), fun i _ h => absurd h (by simp [rd0]), fun i h => absurd h (by simp [rd0]), fun j h => absurd h (by simp [rd0]), by decide, fun h => by cases h⟩
theorem lay_up {T : List (List Nat)} (h : okT T) (hn : T ≠ []) : UpT (lay T) := by
  have := UpR.run _ upR0 (run_tx h hn)
  have hp : 0 < (lay T).length := by simp [lay]
  exact ⟨hp, this.root hp, this.up, this.lv⟩
/-- A machine that may be: at most eight below each. -/
structure MayT (T : List (List Nat)) : Prop where
  ne : T ≠ []
  le : T.length ≤ 8
  nd : ∀ n ∈ T, okN n ∧ n.length ≤ 8
  co : ∀ n ∈ T, ∀ c ∈ n, c ≤ 8
  size : 1 + T.length + cntN T + cntP T ≤ 64
  few : cntP T ≤ 32
theorem MayT.ok {T : List (List Nat)} (h : MayT T) : okT T := fun n hn => (h.nd n hn).1
theorem kid_lt {t : List (Int × Int)} (h : UpT t) {v : Nat} {k : Int} (hk : k ∈ kidsL t v) : ∃ n : Nat, k = n ∧ n < t.length ∧ lev t n = lev t v + 1 := by
  obtain ⟨i, rfl, hi, hp⟩ := kid_mem.1 hk
  have h0 : 0 < i := by
    rcases Nat.eq_zero_or_pos i with e | e
    · subst e; have := h.root.1; omega
    · exact e
  have := (h.up i h0 hi).2.2
  rw [hp, Int.toNat_natCast] at this
  exact ⟨i, rfl, hi, this⟩
theorem lay_tree {T : List (List Nat)} (h : MayT T) : Tree (lay T) := by
  have hu := lay_up h.ok h.ne
  have hs := shape_lay T
  obtain ⟨c1, c2, c3, c4⟩ := hu.count
  rw [hs] at c1 c2 c3
  have hk0 : (kidsL (lay T) 0).length = T.length := by rw [kids_lay0, nix_len]
  have hk1 : ∀ n ∈ kidsL (lay T) 0, 1 ≤ (kidsL (lay T) n).length ∧ (kidsL (lay T) n).length ≤ 8 ∧ ∀ c ∈ kidsL (lay T) n, 1 ≤ (kidsL (lay T) c).length ∧ (kidsL (lay T) c).length ≤ 8 := by
    intro n hn
    have hm : ((kidsL (lay T) n).map fun c => (kidsL (lay T) c).length) ∈ T := by
      have : ((kidsL (lay T) n).map fun c => (kidsL (lay T) c).length) ∈ shape (lay T) := by
        unfold shape; exact List.mem_map.2 ⟨n, hn, rfl⟩
      rwa [hs] at this
    have hok := h.nd _ hm
    have hl := List.length_pos_iff.2 hok.1.1
    have hl2 := hok.2
    rw [List.length_map] at hl hl2
    refine ⟨hl, hl2, fun c hc => ?_⟩
    have hcm : (kidsL (lay T) c).length ∈ ((kidsL (lay T) n).map fun c => (kidsL (lay T) c).length) := List.mem_map.2 ⟨c, hc, rfl⟩
    exact ⟨hok.1.2 _ hcm, h.co _ hm _ hcm⟩
  have hTl := List.length_pos_iff.2 h.ne
  have hle := h.le
  -- by level
  have hkid : ∀ i < (lay T).length, (lev (lay T) i = 3 ∧ (kidsL (lay T) i).length = 0) ∨ (lev (lay T) i ≠ 3 ∧ 1 ≤ (kidsL (lay T) i).length ∧ (kidsL (lay T) i).length ≤ 8) := by
    intro i hi
    have hv := hu.lv i hi
    rcases (show lev (lay T) i = 3 ∨ lev (lay T) i = 0 ∨ lev (lay T) i = 1 ∨ lev (lay T) i = 2 by omega) with e | e | e | e
    · refine .inl ⟨e, ?_⟩
      cases hk : kidsL (lay T) i with
      | nil => rfl
      | cons k l =>
        obtain ⟨n, _, hn, hnl⟩ := kid_lt hu (show k ∈ kidsL (lay T) i by rw [hk]; simp)
        have := hu.lv n hn
        omega
    · have := (hu.lev0 hi).1 e
      subst this
      exact .inr ⟨by omega, by show 1 ≤ (kidsL (lay T) 0).length; omega, by show (kidsL (lay T) 0).length ≤ 8; omega⟩
    · have hm : (i : Int) ∈ kidsL (lay T) 0 := by rw [← hu.lev1]; exact lev_mem.2 ⟨i, rfl, hi, e⟩
      have := hk1 _ hm
      exact .inr ⟨by omega, this.1, this.2.1⟩
    · have hm : par (lay T) i ∈ levL (lay T) 1 := (hu.lev_up (by decide) hi).2 e
      rw [hu.lev1] at hm
      have := (hk1 _ hm).2.2 i (kid_mem.2 ⟨i, rfl, hi, rfl⟩)
      exact .inr ⟨by omega, this.1, this.2⟩
  refine ⟨hu.pos, by rw [lay_len]; exact h.size, by rw [c3]; exact h.few, hu.root, hu.up, hu.lv, fun i hi => ?_, fun i hi => ?_⟩
  · rcases hkid i hi with ⟨a, b⟩ | ⟨a, b, c⟩
    · exact ⟨fun _ => b, fun _ => a⟩
    · exact ⟨fun e => absurd e a, fun e => by omega⟩
  · rcases hkid i hi with ⟨a, b⟩ | ⟨a, b, c⟩ <;> omega
theorem shape_may {t : List (Int × Int)} (h : Tree t) : MayT (shape t) := by
  have hu := h.upT
  obtain ⟨c1, c2, c3, c4⟩ := hu.count
  have hk : ∀ i < t.length, lev t i ≠ 3 → 1 ≤ (kidsL t i).length ∧ (kidsL t i).length ≤ 8 := fun i hi hl => by
    have h1 := h.leaf i hi
    refine ⟨?_, h.kids i hi⟩
    rcases Nat.eq_zero_or_pos (kidsL t i).length with e | e
    · exact absurd (h1.2 e) hl
    · exact e
  have h0 := hk 0 hu.pos (by rw [hu.root.2]; decide)
  have hlen : (shape t).length = (kidsL t 0).length := by simp [shape]
  have hn : ∀ n ∈ shape t, ∃ v : Nat, v < t.length ∧ lev t v = 1 ∧ n = (kidsL t v).map fun c => (kidsL t c).length := by
    intro n hn
    obtain ⟨k, hk1, rfl⟩ := List.mem_map.1 hn
    obtain ⟨v, rfl, hv, hl⟩ := kid_lt hu (v := 0) hk1
    exact ⟨v, hv, by rw [hl, hu.root.2]; rfl, rfl⟩
  have hc : ∀ n ∈ shape t, ∀ c ∈ n, 1 ≤ c ∧ c ≤ 8 := by
    intro n hn' c hc
    obtain ⟨v, hv, hl, rfl⟩ := hn n hn'
    obtain ⟨k, hk1, rfl⟩ := List.mem_map.1 hc
    obtain ⟨u, rfl, hu', hl2⟩ := kid_lt hu hk1
    exact hk u hu' (by omega)
  refine ⟨fun e => ?_, by rw [hlen]; exact h0.2, fun n hn' => ?_, fun n hn' c hc' => (hc n hn' c hc').2, ?_, by rw [← c3]; exact h.few⟩
  · rw [e] at hlen; simp at hlen; have := h0.1; simp only [Int.ofNat_zero, Int.cast_ofNat_Int] at this; omega
  · obtain ⟨v, hv, hl, rfl⟩ := hn n hn'
    have := hk v hv (by omega)
    refine ⟨⟨fun e => ?_, fun c hc' => (hc _ hn' c hc').1⟩, by rw [List.length_map]; exact this.2⟩
    have e' := congrArg List.length e
    rw [List.length_map] at e'
    simp at e'; rw [e'] at this; simp at this
  · rw [← c1, ← c2, ← c3, ← c4]; exact h.le
end Go.Proofs.YtaaenepdhjdmlaaT
