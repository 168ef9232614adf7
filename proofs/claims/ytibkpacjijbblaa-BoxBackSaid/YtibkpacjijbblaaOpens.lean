/- Whatever reads as a value of a type reads as one of a kind: for rows of laws. -/
import Derived.Test.YtibkpacjijbblaaWMore
import Derived.Deep.Slices
import Derived.WideShapes
namespace Go.Proofs.YtibkpacjijbblaaO
open Go Go.RowKit Go.Proofs.YtibkpacjijbblaaW.PrintWords
/-- Whatever reads as a value of type t reads as one of a kind. -/
def Opens {α H : Type} (enc : TypeId × Value → H) (P : Program) (W : World) (t : TypeId) (d : Kd α) (Q : α → Prop) : Prop :=
  P.cellsOf t = d.sz ∧ ∀ fuel cs x, DataW.trod enc P W 0 (fun _ => true) true fuel t cs = some x → ∃ a, d.K W a cs ∧ Q a
section
variable {α β H : Type} {enc : TypeId × Value → H} {P : Program} {W : World}
theorem Opens.int {t : TypeId} {k : IntKind} (ht : P.underlying t = some (.int k)) (hc : P.cellsOf t = 1) : Opens enc P W t (Kd.int k) (fun n => (Lit.int k n).wf = true) := by
  refine ⟨hc, fun fuel cs x h => ?_⟩
  cases fuel with
  | zero => simp [DataW.trod] at h
  | succ m =>
    unfold DataW.trod at h
    rw [ht] at h
    split at h <;> first | (cases h; done) | (rename_i e; cases e; done) | skip
    rename_i k1 k2 n he
    cases he
    split at h
    · rename_i hk
      obtain ⟨rfl, hw⟩ := hk
      exact ⟨n, rfl, hw⟩
    · simp at h
theorem Opens.bool {t : TypeId} (ht : P.underlying t = some .bool) (hc : P.cellsOf t = 1) : Opens enc P W t Kd.bool (fun _ => True) := by
  refine ⟨hc, fun fuel cs x h => ?_⟩
  cases fuel with
  | zero => simp [DataW.trod] at h
  | succ m =>
    unfold DataW.trod at h
    rw [ht] at h
    split at h <;> first | (cases h; done) | (rename_i e; cases e; done) | skip
    rename_i b he
    exact ⟨b, rfl, trivial⟩
theorem list_of {A : Type} {R : Nat → A → Prop} : ∀ n, (∀ i, i < n → ∃ a, R i a) → ∃ l : List A, l.length = n ∧ ∀ i a, l[i]? = some a → R i a
  | 0, _ => ⟨[], rfl, fun i a h => by simp at h⟩
  | n + 1, h => by
    obtain ⟨l, hl, hr⟩ := list_of n (fun i hi => h i (by omega))
    obtain ⟨a, ha⟩ := h n (by omega)
    refine ⟨l ++ [a], by simp [hl], fun i b hb => ?_⟩
    rcases Nat.lt_or_ge i n with hi | hi
    · rw [List.getElem?_append_left (by omega)] at hb; exact hr i b hb
    · rw [List.getElem?_append_right (by omega)] at hb
      have : i = n := by
        have := List.getElem?_eq_some_iff.1 hb
        obtain ⟨h1, _⟩ := this
        simp at h1; omega
      subst this
      simp [hl] at hb
      subst hb; exact ha
theorem add_add (a : Addr) (m n : Nat) : (a.add m).add n = a.add (m + n) := by
  unfold Addr.add
  by_cases h1 : m = 0
  · subst h1; simp
  · by_cases h2 : n = 0
    · subst h2; simp
    · rw [if_neg h1, if_neg h2, if_neg (by omega)]; simp [Nat.add_assoc]
theorem mapM_get {A B : Type} (f : A → Option B) : ∀ (l : List A) (ys : List B), l.mapM f = some ys → ys.length = l.length ∧ ∀ (i : Nat) (x : A), l[i]? = some x → ∃ y, ys[i]? = some y ∧ f x = some y
  | [], ys, h => by simp at h; subst h; simp
  | x :: l, ys, h => by
    rw [List.mapM_cons] at h
    cases hx : f x with
    | none => rw [hx] at h; simp at h
    | some y =>
      rw [hx] at h
      cases hl : l.mapM f with
      | none => rw [hl] at h; simp at h
      | some zs =>
        rw [hl] at h
        obtain rfl : y :: zs = ys := by simpa using h
        obtain ⟨h1, h2⟩ := mapM_get f l zs hl
        refine ⟨by simp [h1], fun i x' hi => ?_⟩
        cases i with
        | zero => simp at hi; subst hi; exact ⟨y, rfl, hx⟩
        | succ i => exact h2 i x' (by simpa using hi)
theorem mapM_at {w : World} {a : Addr} (n : Nat) (cs : List Value) (h : (List.range n).mapM (fun i => w.cell? (a.add i)) = some cs) : cs.length = n ∧ ∀ i u, cs[i]? = some u → w.cell? (a.add i) = some u := by
  obtain ⟨h1, h2⟩ := mapM_get _ _ _ h
  rw [List.length_range] at h1
  refine ⟨h1, fun i u hu => ?_⟩
  have hi : i < n := by
    obtain ⟨h3, _⟩ := List.getElem?_eq_some_iff.1 hu; omega
  obtain ⟨y, h3, h4⟩ := h2 i i (by simp [hi])
  rw [h3] at hu
  cases hu; exact h4
theorem cells_at {base n : Nat} {a : Addr} {cs : List Value} (h : W.cells? base a n = some cs) : cs.length = n ∧ ∀ i u, cs[i]? = some u → W.cell? (a.add i) = some u := by
  unfold World.cells? at h
  split at h
  · exact mapM_at _ _ h
  · simp at h
theorem Opens.slice {t e : TypeId} {d : Kd α} {Q : α → Prop} (ht : P.underlying t = some (.slice e)) (hc : P.cellsOf t = 1) (he : Opens enc P W e d Q) :
    Opens enc P W t (Kd.slice e d) (fun l => l.length ≤ maxLen ∧ ∀ x ∈ l, Q x) := by
  refine ⟨hc, fun fuel cs x h => ?_⟩
  rcases Deep.open_slice ht h with ⟨rfl, _⟩ | ⟨a, len, cap, m, n, D, Pl, rfl, hb, hl, hm, hmm, rfl, hx⟩
  · exact ⟨[], ⟨none, 0, rfl, Nat.le_refl _, rfl, by simp, fun h => by simp at h⟩, by simp⟩
  · simp only [if_true] at hmm
    subst hmm
    obtain ⟨l, hll, hlr⟩ := list_of (R := fun i y => ∃ cs', W.cells? 0 (a.add (i * P.cellsOf e)) (P.cellsOf e) = some cs' ∧ d.K W y cs' ∧ Q y) len (fun i hi => by
      obtain ⟨cs', h1, h2⟩ := hx i (by omega)
      obtain ⟨y, h3, h4⟩ := he.2 _ _ _ h2
      exact ⟨y, cs', h1, h3, h4⟩)
    subst hll
    refine ⟨l, ⟨some a, m, rfl, hl, rfl, by unfold maxLen at hm; omega, fun _ => ⟨a, rfl, fun j p hp => ?_⟩⟩, by omega, fun y hy => ?_⟩
    · obtain ⟨cs', h1, h2, h3⟩ := hlr j p hp
      obtain ⟨h4, h5⟩ := cells_at h1
      rw [he.1] at h1 h4
      refine ⟨cs', h4, h2, fun i u hu => ?_⟩
      have := h5 i u hu
      rw [he.1] at this
      rwa [add_add] at this
    · obtain ⟨j, hj, rfl⟩ := List.getElem_of_mem hy
      obtain ⟨cs', _, _, h3⟩ := hlr j _ (List.getElem?_eq_getElem hj)
      exact h3
theorem Opens.fit {t : TypeId} {d : Kd α} {Q : α → Prop} (h : Opens enc P W t d Q) : ∀ fuel cs x, DataW.trod enc P W 0 (fun _ => true) true fuel t cs = some x → ∃ a, d.K W a cs ∧ Q a := h.2
/-- The fields of a struct, from a place on. -/
def OpensF (enc : TypeId × Value → H) (P : Program) (W : World) (fs : List Field) (off : Nat) (d : Kd α) (Q : α → Prop) : Prop :=
  ∀ (fuel : Nat) (cs : List Value) (ys : List (DataW H × List MemPlace)), cs.length = off + d.sz → fs.mapM (fun f => DataW.trod enc P W 0 (fun _ => true) true fuel f.type ((cs.drop f.offset).take (P.cellsOf f.type))) = some ys → ∃ a, d.K W a (cs.drop off) ∧ Q a
theorem OpensF.one {f : Field} {off : Nat} {d : Kd α} {Q : α → Prop} (ho : f.offset = off) (h : Opens enc P W f.type d Q) : OpensF enc P W [f] off d Q := by
  intro fuel cs ys hl hy
  obtain ⟨h1, h2⟩ := h
  simp only [List.mapM_cons, List.mapM_nil] at hy
  cases hz : DataW.trod enc P W 0 (fun _ => true) true fuel f.type ((cs.drop f.offset).take (P.cellsOf f.type)) with
  | none => rw [hz] at hy; simp at hy
  | some z =>
    obtain ⟨a, ha, hq⟩ := h2 _ _ _ hz
    rw [List.take_of_length_le (by rw [List.length_drop]; omega), ho] at ha
    exact ⟨a, ha, hq⟩
theorem OpensF.cons {f : Field} {fs : List Field} {off : Nat} {d : Kd α} {d' : Kd β} {Q : α → Prop} {Q' : β → Prop} (ho : f.offset = off) (h : Opens enc P W f.type d Q) (h' : OpensF enc P W fs (off + d.sz) d' Q') :
    OpensF enc P W (f :: fs) off (Kd.pair d d') (fun x => Q x.1 ∧ Q' x.2) := by
  intro fuel cs ys hl hy
  have hl' : cs.length = off + (d.sz + d'.sz) := hl
  obtain ⟨h1, h2⟩ := h
  simp only [List.mapM_cons] at hy
  cases hz : DataW.trod enc P W 0 (fun _ => true) true fuel f.type ((cs.drop f.offset).take (P.cellsOf f.type)) with
  | none => rw [hz] at hy; simp at hy
  | some z =>
    rw [hz] at hy
    cases hw : fs.mapM (fun f => DataW.trod enc P W 0 (fun _ => true) true fuel f.type ((cs.drop f.offset).take (P.cellsOf f.type))) with
    | none => rw [hw] at hy; simp at hy
    | some zs =>
      obtain ⟨a, ha, hq⟩ := h2 _ _ _ hz
      obtain ⟨b, hb, hq'⟩ := h' fuel cs zs (by omega) hw
      rw [ho, h1] at ha
      refine ⟨(a, b), ⟨_, _, ?_, ha, hb⟩, hq, hq'⟩
      rw [← List.drop_drop, List.take_append_drop]
theorem Opens.struct {t : TypeId} {fs : Array Field} {d : Kd α} {Q : α → Prop} {f : β → α} {g : α → β} (hg : ∀ x, f (g x) = x) (ht : P.underlying t = some (.struct fs)) (hc : P.cellsOf t = d.sz) (h : OpensF enc P W fs.toList 0 d Q) :
    Opens enc P W t (Kd.iso d f) (fun b => Q (f b)) := by
  refine ⟨hc, fun fuel cs x hx => ?_⟩
  cases fuel with
  | zero => simp [DataW.trod] at hx
  | succ m =>
    unfold DataW.trod at hx
    rw [ht] at hx
    simp only at hx
    split at hx
    · rename_i hl
      obtain ⟨ys, hy, _⟩ := Option.map_eq_some_iff.1 hx
      obtain ⟨a, ha, hq⟩ := h m cs ys (by omega) hy
      refine ⟨g a, ?_, ?_⟩
      · show d.K W (f (g a)) cs
        rw [hg]; simpa using ha
      · show Q (f (g a))
        rw [hg]; exact hq
    · simp at hx
end
end Go.Proofs.YtibkpacjijbblaaO
