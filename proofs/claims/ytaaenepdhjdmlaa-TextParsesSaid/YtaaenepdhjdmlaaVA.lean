/- Walks over the program's functions, on values without memory, and what they come to. No condition. -/
import Derived.Test.YtaaenepdhjdmlaaZC
set_option linter.unusedVariables false
set_option linter.unusedSimpArgs false
namespace Go.Proofs.YtaaenepdhjdmlaaT
open Go
set_option linter.unusedVariables false
structure Gt where
  t : List (Int × Int)
  p : Nat
  ok : Bool
def vxs (L : List UInt8) (V : Gt → Gt) (c : UInt8) : Nat → Gt → Gt
  | 0, g => g
  | f + 1, g => if g.ok = true ∧ L[g.p]? = some c then vxs L V c f (V g) else g
def vfin (L : List UInt8) (g : Gt) : Gt := if g.ok = false then g else if L[g.p]? = some 41 then ⟨g.t, g.p + 1, g.ok⟩ else ⟨g.t, g.p, false⟩
/-- A vertex of the level 3 - m, below one. -/
def vx (L : List UInt8) : Nat → Int → Gt → Gt
  | 0, a, g => if L[g.p]? = some (let8 3) then ⟨g.t ++ [(a, 3)], g.p + 1, g.ok⟩ else ⟨g.t, g.p, false⟩
  | m + 1, a, g => if L[g.p]? = some (let8 ((2 - m : Nat) : Int)) then
      (if L[g.p + 1]? = some 40 then vfin L (vxs L (vx L m g.t.length) (let8 ((3 - m : Nat) : Int)) L.length (vx L m g.t.length ⟨g.t ++ [(a, ((2 - m : Nat) : Int))], g.p + 1 + 1, g.ok⟩))
       else ⟨g.t ++ [(a, ((2 - m : Nat) : Int))], g.p + 1, false⟩)
    else ⟨g.t, g.p, false⟩
structure InG (L : List UInt8) (g : Gt) : Prop where
  t : g.t.length ≤ g.p
  p : g.p ≤ L.length
theorem at_lt {L : List UInt8} {p : Nat} {c : UInt8} (h : L[p]? = some c) : p < L.length := (List.getElem?_eq_some_iff.1 h).1
theorem vxs_in {L : List UInt8} {V : Gt → Gt} {c : UInt8} (hV : ∀ g, InG L g → InG L (V g) ∧ g.p ≤ (V g).p) : ∀ (f : Nat) (g : Gt), InG L g → InG L (vxs L V c f g) ∧ g.p ≤ (vxs L V c f g).p
  | 0, g, h => ⟨h, Nat.le_refl _⟩
  | f + 1, g, h => by
    unfold vxs
    split
    · have h1 := hV g h
      have h2 := vxs_in (c := c) hV f (V g) h1.1
      exact ⟨h2.1, Nat.le_trans h1.2 h2.2⟩
    · exact ⟨h, Nat.le_refl _⟩
theorem vfin_in {L : List UInt8} {g : Gt} (h : InG L g) : InG L (vfin L g) ∧ g.p ≤ (vfin L g).p := by
  unfold vfin
  split
  · exact ⟨h, Nat.le_refl _⟩
  · split
    · rename_i h2
      have := at_lt h2
      exact ⟨⟨Nat.le_trans h.t (Nat.le_succ _), this⟩, Nat.le_succ _⟩
    · exact ⟨⟨h.t, h.p⟩, Nat.le_refl _⟩
theorem vx_in (L : List UInt8) : ∀ (m : Nat) (a : Int) (g : Gt), InG L g → InG L (vx L m a g) ∧ g.p ≤ (vx L m a g).p ∧ (L[g.p]? = some (let8 ((3 - m : Nat) : Int)) → g.p < (vx L m a g).p)
  | 0, a, g, h => by
    unfold vx
    split
    · rename_i h1
      have := at_lt h1
      exact ⟨⟨by simp only [List.length_append, List.length_cons, List.length_nil]; have := h.t; omega, this⟩, Nat.le_succ _, fun _ => Nat.lt_succ_self _⟩
    · rename_i h1
      exact ⟨⟨h.t, h.p⟩, Nat.le_refl _, fun e => absurd e h1⟩
  | m + 1, a, g, h => by
    have ht := h.t
    unfold vx
    split
    · rename_i h1
      have hl := at_lt h1
      split
      · rename_i h2
        have hl2 := at_lt h2
        have i0 : InG L ⟨g.t ++ [(a, ((2 - m : Nat) : Int))], g.p + 1 + 1, g.ok⟩ := ⟨by simp only [List.length_append, List.length_cons, List.length_nil]; omega, by show g.p + 1 + 1 ≤ _; omega⟩
        obtain ⟨i1, i2, _⟩ := vx_in L m g.t.length _ i0
        have hVm : ∀ g', InG L g' → InG L (vx L m g.t.length g') ∧ g'.p ≤ (vx L m g.t.length g').p := fun g' hg => ⟨(vx_in L m _ g' hg).1, (vx_in L m _ g' hg).2.1⟩
        obtain ⟨j1, j2⟩ := vxs_in (V := vx L m g.t.length) (c := let8 ((3 - m : Nat) : Int)) hVm L.length _ i1
        obtain ⟨k1, k2⟩ := vfin_in j1
        have i2' : g.p + 1 + 1 ≤ (vx L m g.t.length ⟨g.t ++ [(a, ((2 - m : Nat) : Int))], g.p + 1 + 1, g.ok⟩).p := i2
        exact ⟨k1, by omega, fun _ => by omega⟩
      · exact ⟨⟨by simp only [List.length_append, List.length_cons, List.length_nil]; omega, hl⟩, Nat.le_succ _, fun _ => Nat.lt_succ_self _⟩
    · rename_i h1
      refine ⟨⟨h.t, h.p⟩, Nat.le_refl _, fun e => absurd ?_ h1⟩
      rw [show (3 - (m + 1) : Nat) = 2 - m by omega] at e
      exact e
theorem vxs_fuel {L : List UInt8} {V : Gt → Gt} {c : UInt8} (hV : ∀ g, InG L g → InG L (V g) ∧ (L[g.p]? = some c → g.p < (V g).p)) : ∀ (f f' : Nat) (g : Gt), InG L g → L.length ≤ g.p + f → L.length ≤ g.p + f' → vxs L V c f g = vxs L V c f' g
  | 0, 0, g, _, _, _ => rfl
  | 0, f' + 1, g, h, h1, h2 => by
    unfold vxs
    rw [if_neg]
    rintro ⟨_, e⟩; have := at_lt e; omega
  | f + 1, 0, g, h, h1, h2 => by
    unfold vxs
    rw [if_neg]
    rintro ⟨_, e⟩; have := at_lt e; omega
  | f + 1, f' + 1, g, h, h1, h2 => by
    unfold vxs
    split
    · rename_i hc
      have h3 := hV g h
      have h4 := h3.2 hc.2
      exact vxs_fuel hV f f' (V g) h3.1 (by omega) (by omega)
    · rfl
theorem vxs_step {L : List UInt8} {V : Gt → Gt} {c : UInt8} (hV : ∀ g, InG L g → InG L (V g) ∧ (L[g.p]? = some c → g.p < (V g).p)) {g : Gt} (h : InG L g) (hc : g.ok = true ∧ L[g.p]? = some c) : vxs L V c L.length g = vxs L V c L.length (V g) := by
  have hl := at_lt hc.2
  have h3 := hV g h
  rw [vxs_fuel hV L.length (L.length + 1) g h (by omega) (by omega)]
  show (if _ then _ else _) = _
  rw [if_pos hc]
theorem vxs_stop {L : List UInt8} {V : Gt → Gt} {c : UInt8} {g : Gt} (hc : ¬ (g.ok = true ∧ L[g.p]? = some c)) : ∀ f, vxs L V c f g = g
  | 0 => rfl
  | f + 1 => by unfold vxs; rw [if_neg hc]
end Go.Proofs.YtaaenepdhjdmlaaT

namespace Go.Proofs.YtaaenepdhjdmlaaT
open Go
set_option linter.unusedVariables false
theorem let8_letter {k : Nat} (h : k ≤ 3) : ((let8 (k : Int)).toNat : Int) = letter k := by
  rcases (show k = 0 ∨ k = 1 ∨ k = 2 ∨ k = 3 by omega) with rfl | rfl | rfl | rfl <;> rfl
theorem drop_at {L : List UInt8} {p : Nat} {b : UInt8} (h : L[p]? = some b) : L.drop p = b :: L.drop (p + 1) := by
  obtain ⟨hl, he⟩ := List.getElem?_eq_some_iff.1 h
  rw [List.drop_eq_getElem_cons hl, he]
structure Good (L : List UInt8) (p : Nat) (r : Rd) (q : Nat) (r' : Rd) : Prop where
  lt : p < q
  le : q ≤ L.length
  run : brun p (L.drop p) r = brun q (L.drop q) r'
structure Fail (L : List UInt8) (p : Nat) (r : Rd) (q : Nat) : Prop where
  le : q ≤ L.length
  stop : q < L.length → ∃ r', brun p (L.drop p) r = (some q, r')
  endd : q = L.length → ∃ r', brun p (L.drop p) r = (none, r') ∧ ¬ r'.done
theorem Good.trans {L : List UInt8} {p q s : Nat} {r r' r'' : Rd} (h : Good L p r q r') (k : Good L q r' s r'') : Good L p r s r'' := ⟨Nat.lt_trans h.lt k.lt, k.le, h.run.trans k.run⟩
theorem Good.fail {L : List UInt8} {p q s : Nat} {r r' : Rd} (h : Good L p r q r') (k : Fail L q r' s) : Fail L p r s := ⟨k.le, fun e => by obtain ⟨x, hx⟩ := k.stop e; exact ⟨x, h.run.trans hx⟩, fun e => by obtain ⟨x, hx, hd⟩ := k.endd e; exact ⟨x, h.run.trans hx, hd⟩⟩
theorem good_one {L : List UInt8} {p : Nat} {r r' : Rd} {b : UInt8} (h : L[p]? = some b) (ht : tk r b = (r', true)) : Good L p r (p + 1) r' := ⟨Nat.lt_succ_self _, at_lt h, by rw [drop_at h, brun_one ht]⟩
theorem fail_here {L : List UInt8} {p : Nat} {r : Rd} (hp : p ≤ L.length) (hd : ¬ r.done) (ht : ∀ b, L[p]? = some b → (tk r b).2 = false) : Fail L p r p := by
  refine ⟨hp, fun h => ?_, fun h => ?_⟩
  · have hb := List.getElem?_eq_getElem h
    refine ⟨r, ?_⟩
    rw [drop_at hb]
    show (if (tk r L[p]).2 = true then _ else _) = _
    rw [ht _ hb]; rfl
  · refine ⟨r, ?_, hd⟩
    rw [h, List.drop_length]; rfl
theorem tk_not {t : List (Int × Int)} {op : List Int} {f : Bool} {b : UInt8} (h1 : b = 41 → op = [] ∨ f = true) (h2 : (b.toNat : Int) ≠ letter op.length) : (tk ⟨t, op, false, f⟩ b).2 = false := by
  cases hb : (tk ⟨t, op, false, f⟩ b).2 with
  | false => rfl
  | true =>
    rcases tk_else hb with ⟨rfl, g1, g2⟩ | ⟨g1, _⟩
    · rcases h1 rfl with e | e
      · exact absurd e g1
      · rw [g2] at e; cases e
    · exact absurd g1 h2
def Sim (L : List UInt8) (m : Nat) : Prop := ∀ (a : Int) (T : List (Int × Int)) (op : List Int) (f : Bool) (p : Nat), op.length = 3 - m → (op = [] → T = []) → a = lastI op → p ≤ L.length → (L[p]? ≠ some (let8 ((3 - m : Nat) : Int)) → f = true ∨ op = []) →
  ((vx L m a ⟨T, p, true⟩).ok = true ∧ Good L p ⟨T, op, false, f⟩ (vx L m a ⟨T, p, true⟩).p ⟨(vx L m a ⟨T, p, true⟩).t, op, false, false⟩ ∧ (vx L m a ⟨T, p, true⟩).t ≠ []) ∨
  ((vx L m a ⟨T, p, true⟩).ok = false ∧ Fail L p ⟨T, op, false, f⟩ (vx L m a ⟨T, p, true⟩).p)
theorem not_letter {L : List UInt8} {p k : Nat} (hk : k ≤ 3) {b : UInt8} (h : L[p]? = some b) (hn : L[p]? ≠ some (let8 (k : Int))) : (b.toNat : Int) ≠ letter k := by
  rw [← let8_letter hk]
  intro e
  exact hn (by rw [h, u8_of e])
theorem fail_vertex {L : List UInt8} {k : Nat} (hk : k ≤ 3) {T : List (Int × Int)} {op : List Int} {f : Bool} {p : Nat} (ho : op.length = k) (hT : op = [] → T = []) (hp : p ≤ L.length) (hn : L[p]? ≠ some (let8 (k : Int))) (hf : f = true ∨ op = []) : Fail L p ⟨T, op, false, f⟩ p := by
  refine fail_here hp (fun hd => ?_) fun b hb => ?_
  · have := hd.2.1; exact hd.2.2 (hT this)
  · refine tk_not (fun _ => hf.symm) ?_
    rw [ho]; exact not_letter hk hb hn
theorem sim_loop {L : List UInt8} {m : Nat} (hm : m ≤ 2) (hs : Sim L m) (own : Int) (op : List Int) (ho : op.length = 3 - m) (hl : lastI op = own) : ∀ (f : Nat) (g : Gt), g.ok = true → g.p ≤ L.length → g.t ≠ [] →
    ((vxs L (vx L m own) (let8 ((3 - m : Nat) : Int)) f g).ok = true ∧ ((vxs L (vx L m own) (let8 ((3 - m : Nat) : Int)) f g) = g ∨ Good L g.p ⟨g.t, op, false, false⟩ (vxs L (vx L m own) (let8 ((3 - m : Nat) : Int)) f g).p ⟨(vxs L (vx L m own) (let8 ((3 - m : Nat) : Int)) f g).t, op, false, false⟩) ∧ (vxs L (vx L m own) (let8 ((3 - m : Nat) : Int)) f g).t ≠ [] ∧ (vxs L (vx L m own) (let8 ((3 - m : Nat) : Int)) f g).p ≤ L.length ∧ (L.length ≤ g.p + f → L[(vxs L (vx L m own) (let8 ((3 - m : Nat) : Int)) f g).p]? ≠ some (let8 ((3 - m : Nat) : Int)))) ∨
    ((vxs L (vx L m own) (let8 ((3 - m : Nat) : Int)) f g).ok = false ∧ Fail L g.p ⟨g.t, op, false, false⟩ (vxs L (vx L m own) (let8 ((3 - m : Nat) : Int)) f g).p)
  | 0, g, h1, h2, h3 => by
    refine .inl ⟨h1, .inl rfl, h3, h2, fun h e => ?_⟩
    have := at_lt e
    simp only [vxs] at this
    omega
  | f + 1, g, h1, h2, h3 => by
    unfold vxs
    by_cases hc : g.ok = true ∧ L[g.p]? = some (let8 ((3 - m : Nat) : Int))
    · rw [if_pos hc]
      have hne : op ≠ [] := fun e => by rw [e] at ho; simp at ho; omega
      have hg : g = ⟨g.t, g.p, true⟩ := by rw [← h1]
      have hv := hs own g.t op false g.p ho (fun e => absurd e hne) hl.symm h2 (fun e => absurd hc.2 e)
      rw [← hg] at hv
      rcases hv with ⟨v1, v2, v3⟩ | ⟨v1, v2⟩
      · rcases sim_loop hm hs own op ho hl f (vx L m own g) v1 v2.le v3 with ⟨w1, w2, w3, w4, w5⟩ | ⟨w1, w2⟩
        · refine .inl ⟨w1, .inr ?_, w3, w4, fun h => w5 ?_⟩
          · rcases w2 with w2 | w2
            · rw [w2]; exact v2
            · exact v2.trans w2
          · have := v2.lt; omega
        · exact .inr ⟨w1, v2.fail w2⟩
      · have hst : vxs L (vx L m own) (let8 ((3 - m : Nat) : Int)) f (vx L m own g) = vx L m own g := vxs_stop (fun e => by rw [v1] at e; cases e.1) f
        rw [hst]
        exact .inr ⟨v1, v2⟩
    · rw [if_neg hc]
      exact .inl ⟨h1, .inl rfl, h3, h2, fun _ e => hc ⟨h1, e⟩⟩
theorem sim (L : List UInt8) : ∀ m, m ≤ 3 → Sim L m
  | 0, _ => by
    intro a T op f p ho hT ha hp hf
    unfold vx
    by_cases h : L[p]? = some (let8 3)
    · have hh : L[(⟨T, p, true⟩ : Gt).p]? = some (let8 3) := h
      rw [if_pos hh]
      have ht : tk ⟨T, op, false, f⟩ (let8 3) = (⟨T ++ [(a, 3)], op, false, false⟩, true) := by
        rw [tk_vtx (by rw [ho]; rfl) hT, ← ha, ho]; rfl
      exact .inl ⟨rfl, good_one h ht, by simp⟩
    · have hh : ¬ L[(⟨T, p, true⟩ : Gt).p]? = some (let8 3) := h
      rw [if_neg hh]
      exact .inr ⟨rfl, fail_vertex (k := 3) (by omega) ho hT hp h (hf h)⟩
  | m + 1, hm => by
    have ih := sim L m (by omega)
    intro a T op f p ho hT ha hp hf
    have ek : 3 - (m + 1) = 2 - m := by omega
    rw [ek] at ho hf
    unfold vx
    by_cases h : L[p]? = some (let8 ((2 - m : Nat) : Int))
    · have hh : L[(⟨T, p, true⟩ : Gt).p]? = some (let8 ((2 - m : Nat) : Int)) := h
      rw [if_pos hh]
      have ht : tk ⟨T, op, false, f⟩ (let8 ((2 - m : Nat) : Int)) = (⟨T ++ [(a, ((2 - m : Nat) : Int))], op, true, false⟩, true) := by
        rw [tk_vtx (by rw [ho]; exact let8_letter (by omega)) hT, ← ha, ho, decide_eq_true (by omega)]
      have g1 := good_one h ht
      by_cases h2 : L[p + 1]? = some 40
      · have hh2 : L[(⟨T, p, true⟩ : Gt).p + 1]? = some 40 := h2
        rw [if_pos hh2]
        have e2 : (((T ++ [(a, ((2 - m : Nat) : Int))]).length : Nat) : Int) - 1 = (T.length : Int) := by simp
        have ht2 : tk ⟨T ++ [(a, ((2 - m : Nat) : Int))], op, true, false⟩ 40 = (⟨T ++ [(a, ((2 - m : Nat) : Int))], op ++ [(T.length : Int)], false, true⟩, true) := by
          rw [tk_open, e2]
        have g2 := g1.trans (good_one h2 ht2)
        have hol : (op ++ [(T.length : Int)]).length = 3 - m := by simp only [List.length_append, List.length_cons, List.length_nil]; omega
        have hv := ih T.length (T ++ [(a, ((2 - m : Nat) : Int))]) (op ++ [(T.length : Int)]) true (p + 1 + 1) hol (fun e => by simp at e) (lastI_snoc _ _).symm g2.le (fun _ => .inl rfl)
        show ((vfin L (vxs L (vx L m T.length) (let8 ((3 - m : Nat) : Int)) L.length (vx L m T.length ⟨T ++ [(a, ((2 - m : Nat) : Int))], p + 1 + 1, true⟩))).ok = true ∧ _ ∧ _) ∨ _
        generalize vx L m T.length ⟨T ++ [(a, ((2 - m : Nat) : Int))], p + 1 + 1, true⟩ = G at *
        rcases hv with ⟨v1, v2, v3⟩ | ⟨v1, v2⟩
        · have g3 := g2.trans v2
          have hw := sim_loop (by omega) ih T.length (op ++ [(T.length : Int)]) hol (lastI_snoc _ _) L.length G v1 v2.le v3
          generalize vxs L (vx L m T.length) (let8 ((3 - m : Nat) : Int)) L.length G = H at *
          rcases hw with ⟨w1, w2, w3, w4, w5⟩ | ⟨w1, w2⟩
          · have w6 := w5 (by omega)
            have g4 : Good L p ⟨T, op, false, f⟩ H.p ⟨H.t, op ++ [(T.length : Int)], false, false⟩ := by
              rcases w2 with w2 | w2
              · rw [w2]; exact g3
              · exact g3.trans w2
            unfold vfin
            rw [if_neg (by rw [w1]; decide)]
            by_cases h3 : L[H.p]? = some 41
            · rw [if_pos h3]
              have ht3 : tk ⟨H.t, op ++ [(T.length : Int)], false, false⟩ 41 = (⟨H.t, op, false, false⟩, true) := by
                rw [tk_close (by simp)]
                simp
              exact .inl ⟨w1, g4.trans (good_one h3 ht3), w3⟩
            · rw [if_neg h3]
              refine .inr ⟨rfl, g4.fail (fail_here w4 (fun hd => by have := hd.2.1; simp at this) fun b hb => ?_)⟩
              refine tk_not (fun e => absurd (by rw [hb, e]) h3) ?_
              rw [hol]
              exact not_letter (by omega) hb w6
          · have : vfin L H = H := by unfold vfin; rw [if_pos w1]
            rw [this]
            exact .inr ⟨w1, g3.fail w2⟩
        · have e5 : vxs L (vx L m T.length) (let8 ((3 - m : Nat) : Int)) L.length G = G := vxs_stop (fun e => by rw [v1] at e; cases e.1) _
          rw [e5]
          have : vfin L G = G := by unfold vfin; rw [if_pos v1]
          rw [this]
          exact .inr ⟨v1, g2.fail v2⟩
      · have hh2 : ¬ L[(⟨T, p, true⟩ : Gt).p + 1]? = some 40 := h2
        rw [if_neg hh2]
        refine .inr ⟨rfl, g1.fail (fail_here g1.le (fun hd => by cases hd.1) fun b hb => ?_)⟩
        cases hbt : (tk ⟨T ++ [(a, ((2 - m : Nat) : Int))], op, true, false⟩ b).2 with
        | false => rfl
        | true => exact absurd (by rw [hb, tk_opens hbt]) h2
    · have hh : ¬ L[(⟨T, p, true⟩ : Gt).p]? = some (let8 ((2 - m : Nat) : Int)) := h
      rw [if_neg hh]
      exact .inr ⟨rfl, fail_vertex (by omega) ho hT hp h (hf h)⟩
/-- The document's answer, and the program's. -/
def gP (s : ByteArray) : Gt := vx s.data.toList 3 (-1) ⟨[], 0, true⟩
def xT (s : ByteArray) : List (Int × Int) := if (gP s).ok = true ∧ ¬ (gP s).p < s.size then (if chk (gP s).t = 0 then (gP s).t else []) else []
def xA (s : ByteArray) : Int := if (gP s).ok = true ∧ ¬ (gP s).p < s.size then (if chk (gP s).t = 0 then 0 else s.size) else (gP s).p
def xE (s : ByteArray) : Int := if (gP s).ok = true ∧ ¬ (gP s).p < s.size then (if chk (gP s).t = 0 then 0 else 2) else 2
theorem parse_same (s : ByteArray) : parT s = xT s ∧ parA s = xA s ∧ parE s = xE s := by
  have hsz : s.data.toList.length = s.size := by rw [Array.length_toList]; rfl
  have hv := sim s.data.toList 3 (Nat.le_refl _) (-1) [] [] false 0 rfl (fun _ => rfl) rfl (Nat.zero_le _) (fun _ => .inr rfl)
  have hr := runF_all s
  unfold xT xA xE
  have hg : vx s.data.toList 3 (-1) ⟨[], 0, true⟩ = gP s := rfl
  rw [hg] at hv
  generalize gP s = g at *
  rcases hv with ⟨v1, v2, v3⟩ | ⟨v1, v2⟩
  · have hrun := v2.run
    rw [List.drop_zero] at hrun
    have hle := v2.le
    by_cases hp : g.p < s.size
    · have hb := List.getElem?_eq_getElem (show g.p < s.data.toList.length by omega)
      have hd : (⟨g.t, [], false, false⟩ : Rd).done := ⟨rfl, rfl, v3⟩
      have hf : brun g.p (s.data.toList.drop g.p) ⟨g.t, [], false, false⟩ = (some g.p, ⟨g.t, [], false, false⟩) := by
        rw [drop_at hb]
        show (if (tk ⟨g.t, [], false, false⟩ _).2 = true then _ else _) = _
        have : (tk ⟨g.t, [], false, false⟩ (s.data.toList[g.p]'(by omega))).2 = false := take_done hd _
        rw [this]; rfl
      have h1 : runF s s.size 0 rd0 = (some g.p, ⟨g.t, [], false, false⟩) := hr.trans (hrun.trans hf)
      obtain ⟨q1, q2, q3⟩ := par_no h1
      rw [if_neg (fun e => e.2 hp), if_neg (fun e => e.2 hp), if_neg (fun e => e.2 hp), q1, q2, q3]
      exact ⟨rfl, rfl, rfl⟩
    · have he : g.p = s.data.toList.length := by omega
      have hf : brun g.p (s.data.toList.drop g.p) ⟨g.t, [], false, false⟩ = (none, ⟨g.t, [], false, false⟩) := by rw [he, List.drop_length]; rfl
      have h1 : runF s s.size 0 rd0 = (none, ⟨g.t, [], false, false⟩) := hr.trans (hrun.trans hf)
      obtain ⟨q1, q2, q3⟩ := par_end h1
      have hy : g.ok = true ∧ ¬ g.p < s.size := ⟨v1, hp⟩
      rw [if_pos hy, if_pos hy, if_pos hy, q1, q2, q3]
      by_cases hc : chk g.t = 0
      · simp [hc]
      · simp [hc]
  · have hle := v2.le
    have hn : ¬ (g.ok = true ∧ ¬ g.p < s.size) := fun e => by rw [v1] at e; cases e.1
    rw [if_neg hn, if_neg hn, if_neg hn]
    by_cases hp : g.p < s.size
    · obtain ⟨r', hr'⟩ := v2.stop (by omega)
      rw [List.drop_zero] at hr'
      obtain ⟨q1, q2, q3⟩ := par_no (hr.trans hr')
      exact ⟨q1, q2, q3⟩
    · have he : g.p = s.data.toList.length := by omega
      obtain ⟨r', hr', hd⟩ := v2.endd he
      rw [List.drop_zero] at hr'
      obtain ⟨q1, q2, q3⟩ := par_end (hr.trans hr')
      have hB : (r'.opens || decide ((r'.op.length : Int) > 0) || !decide (chk r'.t = 0)) = true := by
        cases ho : r'.opens with
        | true => rfl
        | false =>
          by_cases h1 : r'.op = []
          · by_cases h2 : r'.t = []
            · have hc0 : chk [] = 2 := by decide
              rw [h2, hc0]; simp
            · exact absurd ⟨ho, h1, h2⟩ hd
          · have := List.length_pos_iff.2 h1
            simp; left; exact this
      rw [if_pos hB] at q1 q2 q3
      rw [q1, q2, q3]
      exact ⟨rfl, by omega, rfl⟩
end Go.Proofs.YtaaenepdhjdmlaaT
