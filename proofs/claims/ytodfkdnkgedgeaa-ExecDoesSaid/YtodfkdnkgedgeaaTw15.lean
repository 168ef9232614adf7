/- Walks over the program's functions, on values without memory, and what they come to. No condition. -/
import Derived.Test.YtodfkdnkgedgeaaTw14
import Derived.Deep.Slices
import Derived.WideShapes
set_option linter.unusedVariables false
set_option linter.unusedSimpArgs false
namespace Go.Proofs.YtodfkdnkgedgeaaT
open Go Go.RowKit
def Cells (W : World) (cs : List Value) (xs : List AV) : Prop := ∀ (i : Nat) v c, cs[i]? = some v → xs[i]? = some c → v.oneCell' = true ∧ R (fun b => b < W.heap.size) W (fun _ => none) v c
def Opn {α H : Type} (enc : TypeId × Value → H) (P : Program) (W : World) (t : TypeId) (sz : Nat) (f : α → List AV) (Q : α → Prop) : Prop :=
 P.cellsOf t = sz ∧ (∀ a, (f a).length = sz) ∧ ∀ fuel cs x, DataW.trod enc P W 0 (fun _ => true) true fuel t cs = some x → ∃ a, cs.length = sz ∧ Cells W cs (f a) ∧ Q a
section
variable {α β H : Type} {enc : TypeId × Value → H} {P : Program} {W : World} {Im : Nat → Prop} {M : Nat → Option Value}
theorem Cells.one {v : Value} {c : AV} (h1 : v.oneCell' = true) (h : R (fun b => b < W.heap.size) W (fun _ => none) v c) : Cells W [v] [c] := by
 intro i u d hu hd
 cases i with
 | zero => simp at hu hd; subst hu hd; exact ⟨h1, h⟩
 | succ i => simp at hu
theorem Opn.int {t : TypeId} {k : IntKind} (ht : P.underlying t = some (.int k)) (hc : P.cellsOf t = 1) : Opn enc P W t 1 (fun n => [.int k n]) (fun n => (Lit.int k n).wf = true) := by
 refine ⟨hc, fun _ => rfl, fun fuel cs x h => ?_⟩
 cases fuel with
 | zero => simp [DataW.trod] at h
 | succ m =>
  unfold DataW.trod at h
  rw [ht] at h
  split at h <;> first | (cases h; done) | (rename_i e; cases e; done) | skip
  rename_i k1 k2 n he
  cases he
  split at h
  ·rename_i hk
   obtain ⟨rfl, hw⟩ := hk
   exact ⟨n, rfl, .one rfl (.int _ _), hw⟩
  ·simp at h
theorem Opn.bool {t : TypeId} (ht : P.underlying t = some .bool) (hc : P.cellsOf t = 1) : Opn enc P W t 1 (fun b => [.bool b]) (fun _ => True) := by
 refine ⟨hc, fun _ => rfl, fun fuel cs x h => ?_⟩
 cases fuel with
 | zero => simp [DataW.trod] at h
 | succ m =>
  unfold DataW.trod at h
  rw [ht] at h
  split at h <;> first | (cases h; done) | (rename_i e; cases e; done) | skip
  rename_i b he
  exact ⟨b, rfl, .one rfl (.bool _), trivial⟩
theorem Opn.str {t : TypeId} (ht : P.underlying t = some .string) (hc : P.cellsOf t = 1) : Opn enc P W t 1 (fun b => [.str b]) (fun _ => True) := by
 refine ⟨hc, fun _ => rfl, fun fuel cs x h => ?_⟩
 cases fuel with
 | zero => simp [DataW.trod] at h
 | succ m =>
  unfold DataW.trod at h
  rw [ht] at h
  split at h <;> first | (cases h; done) | (rename_i e; cases e; done) | skip
  rename_i b he
  exact ⟨b, rfl, .one rfl (.str _), trivial⟩
theorem list_of {A : Type} {R : Nat → A → Prop} : ∀ n, (∀ i, i < n → ∃ a, R i a) → ∃ l : List A, l.length = n ∧ ∀ i a, l[i]? = some a → R i a
 | 0, _ => ⟨[], rfl, fun i a h => by simp at h⟩
 | n + 1, h => by
  obtain ⟨l, hl, hr⟩ := list_of n (fun i hi => h i (by omega))
  obtain ⟨a, ha⟩ := h n (by omega)
  refine ⟨l ++ [a], by simp [hl], fun i b hb => ?_⟩
  rcases Nat.lt_or_ge i n with hi | hi
  ·rw [List.getElem?_append_left (by omega)] at hb; exact hr i b hb
  ·rw [List.getElem?_append_right (by omega)] at hb
   have : i = n := by
    have := List.getElem?_eq_some_iff.1 hb
    obtain ⟨h1, _⟩ := this
    simp at h1; omega
   subst this
   simp [hl] at hb
   subst hb; exact ha
theorem addr_add (a : Addr) (m n : Nat) : (a.add m).add n = a.add (m + n) := by
 unfold Addr.add
 by_cases h1 : m = 0
 ·subst h1; simp
 ·by_cases h2 : n = 0
  ·subst h2; simp
  ·rw [if_neg h1, if_neg h2, if_neg (by omega)]; simp [Nat.add_assoc]
theorem mapM_get {A B : Type} (f : A → Option B) : ∀ (l : List A) (ys : List B), l.mapM f = some ys → ys.length = l.length ∧ ∀ (i : Nat) (x : A), l[i]? = some x → ∃ y, ys[i]? = some y ∧ f x = some y
 | [], ys, h => by simp at h; subst h; simp
 | x :: l, ys, h => by
  rw [List.mapM_cons] at h
  cases hx : f x with
  | none => rw [hx] at h; simp at h
  | some y =>
   rw [hx] at h
   cases hl : l.mapM f with
   | none => rw [hl] at h; simp at h
   | some zs =>
    rw [hl] at h
    obtain rfl : y :: zs = ys := by simpa using h
    obtain ⟨h1, h2⟩ := mapM_get f l zs hl
    refine ⟨by simp [h1], fun i x' hi => ?_⟩
    cases i with
    | zero => simp at hi; subst hi; exact ⟨y, rfl, hx⟩
    | succ i => exact h2 i x' (by simpa using hi)
theorem cells_at {w : World} {base n : Nat} {a : Addr} {cs : List Value} (h : w.cells? base a n = some cs) : cs.length = n ∧ ∀ i u, cs[i]? = some u → w.cell? (a.add i) = some u := by
 unfold World.cells? at h
 split at h
 ·obtain ⟨h1, h2⟩ := mapM_get _ _ _ h
  rw [List.length_range] at h1
  refine ⟨h1, fun i u hu => ?_⟩
  have hi : i < n := by
   obtain ⟨h3, _⟩ := List.getElem?_eq_some_iff.1 hu; omega
  obtain ⟨y, h3, h4⟩ := h2 i i (by simp [hi])
  rw [h3] at hu
  cases hu; exact h4
 ·simp at h
theorem cell_lt {w : World} {a : Addr} {u : Value} (h : w.cell? a = some u) : a.block < w.heap.size := by
 rcases Nat.lt_or_ge a.block w.heap.size with hl | hl
 ·exact hl
 ·unfold World.cell? at h
  rw [Array.getElem?_eq_none hl] at h
  simp at h
theorem Opn.slice {t e : TypeId} {sz : Nat} {f : α → List AV} {Q : α → Prop} (ht : P.underlying t = some (.slice e)) (hc : P.cellsOf t = 1) (hs : 0 < sz) (he : Opn enc P W e sz f Q) :
  Opn enc P W t 1 (fun l : List α => [.sl false (l.map f)]) (fun l => l.length ≤ maxLen ∧ ∀ x ∈ l, Q x) := by
 refine ⟨hc, fun _ => rfl, fun fuel cs x h => ?_⟩
 rcases Deep.open_slice ht h with ⟨rfl, _⟩ | ⟨a, len, cap, m, n, D, Pl, rfl, hb, hl, hm, hmm, rfl, hx⟩
 ·exact ⟨[], rfl, .one rfl (.sl none 0 false [] ⟨0, 0, none⟩ 0 (fun _ _ => .bool false) (Nat.le_refl _) (fun h => by cases h) (by unfold maxLen; omega) (fun h => by simp at h) (fun i x h => by simp at h) (fun i x j y h => by simp at h) (fun i x j y h => by simp at h) (fun i x j y h => by simp at h)), by simp⟩
 ·simp only [if_true] at hmm
  subst hmm
  obtain ⟨l, hll, hlr⟩ := list_of (R := fun i y => ∃ cs', W.cells? 0 (a.add (i * P.cellsOf e)) (P.cellsOf e) = some cs' ∧ Cells W cs' (f y) ∧ Q y) len (fun i hi => by
   obtain ⟨cs', h1, h2⟩ := hx i (by omega)
   obtain ⟨y, h3, h4, h5⟩ := he.2.2 _ _ _ h2
   exact ⟨y, cs', h1, h4, h5⟩)
  subst hll
  have hcell : ∀ (i : Nat) (x : List AV) (j : Nat) (y : AV), (l.map f)[i]? = some x → x[j]? = some y → ∃ u, W.cell? (a.add (i * sz + j)) = some u ∧ u.oneCell' = true ∧ R (fun b => b < W.heap.size) W (fun _ => none) u y := by
   intro i x j y hi hj
   rw [List.getElem?_map] at hi
   obtain ⟨z, hz, rfl⟩ := Option.map_eq_some_iff.1 hi
   obtain ⟨cs', h1, h2, h3⟩ := hlr i z hz
   obtain ⟨h4, h5⟩ := cells_at h1
   rw [he.1] at h4
   have hj' : j < sz := by have := (List.getElem?_eq_some_iff.1 hj).1; rw [he.2.1] at this; exact this
   have hu := List.getElem?_eq_getElem (l := cs') (i := j) (by omega)
   have := h5 j _ hu
   rw [he.1, addr_add] at this
   exact ⟨_, this, h2 j _ _ hu hj⟩
  refine ⟨l, rfl, .one rfl ?_, by omega, fun y hy => ?_⟩
  ·have h0 : 0 < l.length → a.block < W.heap.size := by
    intro hp
    have hq : 0 < (f l[0]).length := by rw [he.2.1]; exact hs
    obtain ⟨u, h1, _⟩ := hcell 0 (f l[0]) 0 (f l[0])[0] (by rw [List.getElem?_map, List.getElem?_eq_getElem hp]; rfl) (List.getElem?_eq_getElem hq)
    have := cell_lt h1
    rwa [add_block] at this
   have := R.sl (Im := fun b => b < W.heap.size) (w := W) (M := fun _ => none) (some a) m false (l.map f) a sz (fun i j => (W.cell? (a.add (i * sz + j))).getD (.bool false)) (by simpa using hl) (fun h => by cases h) (by unfold maxLen at *; omega) (fun h => ⟨rfl, h0 (by simpa using h)⟩)
    (fun i x h => by
     rw [List.getElem?_map] at h
     obtain ⟨z, _, rfl⟩ := Option.map_eq_some_iff.1 h
     exact he.2.1 z)
    (fun i x j y hi hj => by obtain ⟨u, h1, _⟩ := hcell i x j y hi hj; rw [h1]; rfl)
    (fun i x j y hi hj => by obtain ⟨u, h1, h2, _⟩ := hcell i x j y hi hj; rw [h1]; exact h2)
    (fun i x j y hi hj => by obtain ⟨u, h1, _, h3⟩ := hcell i x j y hi hj; rw [h1]; exact h3)
   rw [List.length_map] at this
   exact this
  ·obtain ⟨j, hj, rfl⟩ := List.getElem_of_mem hy
   obtain ⟨cs', _, _, h3⟩ := hlr j _ (List.getElem?_eq_getElem hj)
   exact h3
def OpnF (enc : TypeId × Value → H) (P : Program) (W : World) (fs : List Field) (off sz : Nat) (f : α → List AV) (Q : α → Prop) : Prop :=
 (∀ a, (f a).length = sz) ∧ ∀ (fuel : Nat) (cs : List Value) (ys : List (DataW H × List MemPlace)), cs.length = off + sz → fs.mapM (fun f => DataW.trod enc P W 0 (fun _ => true) true fuel f.type ((cs.drop f.offset).take (P.cellsOf f.type))) = some ys → ∃ a, Cells W (cs.drop off) (f a) ∧ Q a
theorem OpnF.one {fd : Field} {off sz : Nat} {f : α → List AV} {Q : α → Prop} (ho : fd.offset = off) (h : Opn enc P W fd.type sz f Q) : OpnF enc P W [fd] off sz f Q := by
 refine ⟨h.2.1, fun fuel cs ys hl hy => ?_⟩
 obtain ⟨h1, h0, h2⟩ := h
 simp only [List.mapM_cons, List.mapM_nil] at hy
 cases hz : DataW.trod enc P W 0 (fun _ => true) true fuel fd.type ((cs.drop fd.offset).take (P.cellsOf fd.type)) with
 | none => rw [hz] at hy; simp at hy
 | some z =>
  obtain ⟨a, _, ha, hq⟩ := h2 _ _ _ hz
  rw [List.take_of_length_le (by rw [List.length_drop]; omega), ho] at ha
  exact ⟨a, ha, hq⟩
theorem OpnF.cons {fd : Field} {fs : List Field} {off sz sz' : Nat} {f : α → List AV} {g : β → List AV} {Q : α → Prop} {Q' : β → Prop} (ho : fd.offset = off) (h : Opn enc P W fd.type sz f Q) (h' : OpnF enc P W fs (off + sz) sz' g Q') :
  OpnF enc P W (fd :: fs) off (sz + sz') (fun x : α × β => f x.1 ++ g x.2) (fun x => Q x.1 ∧ Q' x.2) := by
 refine ⟨fun a => by rw [List.length_append, h.2.1, h'.1], fun fuel cs ys hl hy => ?_⟩
 obtain ⟨h1, h0, h2⟩ := h
 simp only [List.mapM_cons] at hy
 cases hz : DataW.trod enc P W 0 (fun _ => true) true fuel fd.type ((cs.drop fd.offset).take (P.cellsOf fd.type)) with
 | none => rw [hz] at hy; simp at hy
 | some z =>
  rw [hz] at hy
  cases hw : fs.mapM (fun f => DataW.trod enc P W 0 (fun _ => true) true fuel f.type ((cs.drop f.offset).take (P.cellsOf f.type))) with
  | none => rw [hw] at hy; simp at hy
  | some zs =>
   obtain ⟨a, _, ha, hq⟩ := h2 _ _ _ hz
   obtain ⟨b, hb, hq'⟩ := h'.2 fuel cs zs (by omega) hw
   rw [ho, h1] at ha
   refine ⟨(a, b), fun i v c hv hc => ?_, hq, hq'⟩
   rcases Nat.lt_or_ge i sz with hi | hi
   ·rw [List.getElem?_append_left (by rw [h0]; exact hi)] at hc
    exact ha i v c (by rw [List.getElem?_take, if_pos hi]; exact hv) hc
   ·rw [List.getElem?_append_right (by rw [h0]; exact hi), h0] at hc
    refine hb (i - sz) v c ?_ hc
    rw [List.getElem?_drop] at hv ⊢
    rw [← hv]; congr 1; omega
theorem Opn.struct {t : TypeId} {fs : Array Field} {sz : Nat} {f : α → List AV} {Q : α → Prop} (ht : P.underlying t = some (.struct fs)) (hc : P.cellsOf t = sz) (h : OpnF enc P W fs.toList 0 sz f Q) :
  Opn enc P W t sz f Q := by
 refine ⟨hc, h.1, fun fuel cs x hx => ?_⟩
 cases fuel with
 | zero => simp [DataW.trod] at hx
 | succ m =>
  unfold DataW.trod at hx
  rw [ht] at hx
  simp only at hx
  split at hx
  ·rename_i hl
   obtain ⟨ys, hy, _⟩ := Option.map_eq_some_iff.1 hx
   obtain ⟨a, ha, hq⟩ := h.2 m cs ys (by omega) hy
   exact ⟨a, by omega, by simpa using ha, hq⟩
  ·simp at hx
theorem Opn.cell {t : TypeId} {g : α → AV} {Q : α → Prop} {v : Value} (h : Opn enc P W t 1 (fun a => [g a]) Q) {x} (hx : ∃ fuel, DataW.trod enc P W 0 (fun _ => true) true fuel t [v] = some x) :
  ∃ a, R (fun b => b < W.heap.size) W (fun _ => none) v (g a) ∧ Q a := by
 obtain ⟨fuel, hf⟩ := hx
 obtain ⟨a, _, h1, h2⟩ := h.2.2 _ _ _ hf
 exact ⟨a, (h1 0 _ _ rfl rfl).2, h2⟩
theorem Opn.agg {t : TypeId} {sz : Nat} {f : α → List AV} {Q : α → Prop} {cs : Array Value} (h : Opn enc P W t sz f Q) {x} (hx : ∃ fuel, DataW.trod enc P W 0 (fun _ => true) true fuel t cs.toList = some x) :
  ∃ a, R (fun b => b < W.heap.size) W (fun _ => none) (.agg cs) (.agg (f a)) ∧ Q a := by
 obtain ⟨fuel, hf⟩ := hx
 obtain ⟨a, h0, h1, h2⟩ := h.2.2 _ _ _ hf
 refine ⟨a, .agg cs _ (by rw [h.2.1, ← h0]; simp) (fun v hv => ?_) (fun i v c hv hc => (h1 i v c (by simpa using hv) hc).2), h2⟩
 obtain ⟨i, hi, rfl⟩ := Array.getElem_of_mem hv
 have hi' : i < (f a).length := by rw [h.2.1, ← h0]; simpa using hi
 exact (h1 i _ _ (by simp [hi]) (List.getElem?_eq_getElem hi')).1
theorem Ret.law {g : FuncId} {xs : List AV} (h : Ret P g xs (.bool true)) {vs : Array Value} (hs : vs.size = xs.length) (hv : ∀ (i : Nat) v x, vs[i]? = some v → xs[i]? = some x → R (fun b => b < W.heap.size) W (fun _ => none) v x) :
  Calls P g vs W fun e w' => e = .returned (.bool true) ∧ Below W.heap.size W w' := by
 refine (h.2 W _ (fun _ => none) vs (fun _ h => h) hs hv (fun i o h => by simp at h) (fun _ _ => rfl) (fun i j b _ h => by simp [ownB] at h) (fun i b h => by simp [ownB] at h)).mono fun e w' hh => ?_
 obtain ⟨v, Im', M', rfl, hk, _, _, _, hr, _⟩ := hh
 have := R_bool hr
 subst this
 exact ⟨rfl, hk.below fun b ⟨i, hb⟩ => by simp [ownB] at hb⟩
theorem args1 {v0 : Value} {x0 : AV} (h0 : R Im W M v0 x0) : ∀ (i : Nat) v x, #[v0][i]? = some v → [x0][i]? = some x → R Im W M v x := by
 intro i v x hv hx
 match i with
 | 0 => simp at hv hx; subst hv hx; exact h0
 | n + 1 => simp at hx
theorem args2 {v0 v1 : Value} {x0 x1 : AV} (h0 : R Im W M v0 x0) (h1 : R Im W M v1 x1) : ∀ (i : Nat) v x, #[v0, v1][i]? = some v → [x0, x1][i]? = some x → R Im W M v x := by
 intro i v x hv hx
 match i with
 | 0 => simp at hv hx; subst hv hx; exact h0
 | 1 => simp at hv hx; subst hv hx; exact h1
 | n + 2 => simp at hx
theorem args3 {v0 v1 v2 : Value} {x0 x1 x2 : AV} (h0 : R Im W M v0 x0) (h1 : R Im W M v1 x1) (h2 : R Im W M v2 x2) : ∀ (i : Nat) v x, #[v0, v1, v2][i]? = some v → [x0, x1, x2][i]? = some x → R Im W M v x := by
 intro i v x hv hx
 match i with
 | 0 => simp at hv hx; subst hv hx; exact h0
 | 1 => simp at hv hx; subst hv hx; exact h1
 | 2 => simp at hv hx; subst hv hx; exact h2
 | n + 3 => simp at hx
end
end Go.Proofs.YtodfkdnkgedgeaaT
