/- Walks over the program's functions, on values without memory, and what they come to. No condition. -/
import Derived.Test.YtmnpiofabgfcmaaTw22
set_option linter.unusedVariables false
set_option linter.unusedSimpArgs false
namespace Go.Proofs.YtmnpiofabgfcmaaT
open Go Go.RowKit
variable {P : Program} {st : St} {Q : Exit → St → Prop} {cx : Cx}
def posOf (i : Nat) : List Nat → Option Nat
 | [] => none
 | a :: l => if a = i then some 0 else (posOf i l).map (· + 1)
theorem posOf_get {i : Nat} : ∀ {ids : List Nat} {j : Nat}, posOf i ids = some j → ids[j]? = some i
 | [], j, h => by simp [posOf] at h
 | a :: l, j, h => by
  unfold posOf at h
  split at h
  ·rename_i e; cases h; simp [e]
  ·cases hp : posOf i l with
   | none => rw [hp] at h; cases h
   | some k => rw [hp] at h; simp at h; subst h; simpa using posOf_get hp
theorem posOf_of {i : Nat} : ∀ {ids : List Nat} {j : Nat}, ids.Nodup → ids[j]? = some i → posOf i ids = some j
 | [], j, _, h => by simp at h
 | a :: l, 0, _, h => by simp at h; simp [posOf, h]
 | a :: l, j + 1, hn, h => by
  have h' : l[j]? = some i := by simpa using h
  have hne : a ≠ i := fun e => (List.nodup_cons.1 hn).1 (e ▸ List.mem_of_getElem? h')
  unfold posOf
  rw [if_neg hne, posOf_of (List.nodup_cons.1 hn).2 h']; rfl
def lendF (ids : List Nat) (i : Nat) : Nat := match posOf i ids with
 | some j => j
 | none => i + ids.length
def lendG (ids : List Nat) (j : Nat) : Nat := match ids[j]? with
 | some i => i
 | none => j - ids.length
def AV.thin : AV → Bool
 | .ptr _ _ => true
 | x => x.scalar
def AV.bare : AV → Bool
 | .fn _ cs => cs.all AV.thin
 | x => x.thin
def inV (ids : List Nat) (x : AV) : AV := if x.bare = true then mp (lendF ids) x else .junk
def outV (ids : List Nat) : AV → AV
 | .ptr i o => .ptr (lendG ids i) o
 | x => if x.scalar = true then x else .junk
def bareO : HO → HO
 | .un => .un
 | .box cs => if cs.all AV.scalar = true then .box cs else .dead
 | _ => .dead
def inO (ids : List Nat) : Nat → List HO → List HO
 | _, [] => []
 | i, o :: l => (if posOf i ids = none then bareO o else .un) :: inO ids (i + 1) l
def outO (ids : List Nat) (css : List (List AV)) : Nat → List HO → List HO
 | _, [] => []
 | i, o :: l => (match posOf i ids with | some j => .box (css.getD j []) | none => bareO o) :: outO ids css (i + 1) l
def lendIn (ids : List Nat) (css : List (List AV)) (st : St) : St := ⟨st.tmps.map (inV ids), css.map .ibox ++ inO ids 0 st.heap, ids.length⟩
def lendOut (ids : List Nat) (css : List (List AV)) (s : St) : St := ⟨s.tmps.map (outV ids), outO ids css 0 (s.heap.drop ids.length), 0⟩
def lentH (st : St) : List Nat → List (List AV) → Prop
 | [], [] => True
 | i :: is, cs :: css => st.heap[i]? = some (.box cs) ∧ AV.pures cs = true ∧ lentH st is css
 | _, _ => False
theorem lentH_get : ∀ {is : List Nat} {css : List (List AV)}, lentH st is css → is.length = css.length ∧ ∀ (j : Nat) i cs, is[j]? = some i → css[j]? = some cs → st.heap[i]? = some (.box cs) ∧ AV.pures cs = true
 | [], [], _ => ⟨rfl, fun j i cs h => by simp at h⟩
 | i :: is, cs :: css, h => by
  obtain ⟨h1, h2⟩ := lentH_get h.2.2
  refine ⟨by simp [h1], fun j k ds hk hd => ?_⟩
  cases j with
  | zero => simp at hk hd; subst hk hd; exact ⟨h.1, h.2.1⟩
  | succ j => exact h2 j k ds (by simpa using hk) (by simpa using hd)
 | [], _ :: _, h => h.elim
 | _ :: _, [], h => h.elim
theorem inO_get (ids : List Nat) : ∀ (l : List HO) (k i : Nat), (inO ids k l)[i]? = (l[i]?).map fun o => if posOf (k + i) ids = none then bareO o else .un
 | [], k, i => by simp [inO]
 | o :: l, k, 0 => by simp [inO]
 | o :: l, k, i + 1 => by simp only [inO, List.getElem?_cons_succ]; rw [inO_get ids l (k + 1) i, show k + 1 + i = k + (i + 1) by omega]
theorem outO_get (ids : List Nat) (css : List (List AV)) : ∀ (l : List HO) (k i : Nat), (outO ids css k l)[i]? = (l[i]?).map fun o => match posOf (k + i) ids with | some j => .box (css.getD j []) | none => bareO o
 | [], k, i => by simp [outO]
 | o :: l, k, 0 => by simp [outO]
 | o :: l, k, i + 1 => by simp only [outO, List.getElem?_cons_succ]; rw [outO_get ids css l (k + 1) i, show k + 1 + i = k + (i + 1) by omega]
theorem bareO_RO {Im Im' : Nat → Prop} {w w' : World} {M M' : Nat → Option Value} {i j : Nat} {o : HO} (h : RO Im w M i o) (hM : M' j = M i) (hb : ∀ b cs, o = .box cs → M i = some (.pointer (some ⟨b, 0, none⟩)) → w'.heap[b]? = w.heap[b]?) : RO Im' w' M' j (bareO o) := by
 cases o with
 | un => exact hM.trans h
 | box cs =>
  unfold bareO
  simp only
  split
  ·rename_i hs
   obtain ⟨b, vs, ty, h1, h2, h3, h4, h5⟩ := h
   exact ⟨b, vs, ty, hM.trans h1, by rw [hb b cs rfl h1]; exact h2, h3, h4, fun i v c hv hc => R_scalar (h5 i v c hv hc) (List.all_eq_true.1 hs c (List.mem_of_getElem? hc))⟩
  ·exact trivial
 | _ => exact trivial
theorem bareO_own {h h' : List HO} {M M' : Nat → Option Value} {i j b : Nat} {o : HO} (h1 : h[i]? = some o) (h2 : h'[j]? = some (bareO o)) (hM : M' j = M i) (hb : ownB h' M' j = some b) : ownB h M i = some b := by
 unfold ownB at hb ⊢
 rw [h2, hM] at hb
 rw [h1]
 cases o with
 | box cs =>
  by_cases hs : cs.all AV.scalar = true
  ·simp only [bareO, if_pos hs] at hb ⊢; exact hb
  ·simp only [bareO, if_neg hs] at hb; cases hb
 | _ => simp [bareO] at hb
theorem R_outV {ids : List Nat} {Im Im' : Nat → Prop} {w w' : World} {M M' : Nat → Option Value} {v : Value} {x : AV} (h : R Im w M v x) (hM : ∀ i u, M i = some u → M' (lendG ids i) = some u) : R Im' w' M' v (outV ids x) := by
 cases x with
 | ptr i o =>
  cases h with
  | ptr _ _ b hb => exact .ptr _ _ b (hM _ _ hb)
 | _ =>
  simp only [outV]
  split
  ·rename_i hs; exact R_scalar h hs
  ·exact .junk _
theorem TW_lend (ids : List Nat) (css : List (List AV)) {c : Code} (hn : nodupB ids = true) (hl : lentH st ids css)
  (h : TW P c (fun e s => s.k = ids.length ∧ (ids.all fun i => match s.heap[ids.length + i]? with | some .un => true | _ => false) = true ∧ Q e (lendOut ids css s)) (lendIn ids css st)) : TW P c Q st := by
 refine .mk fun cx a w hf => ?_
 obtain ⟨Im, M, hF⟩ := hf
 obtain ⟨hlen, hlent⟩ := lentH_get hl
 have hnd := nodupB_iff hn
 have hcs : ∀ (j i : Nat), ids[j]? = some i → ∃ cs, css[j]? = some cs ∧ st.heap[i]? = some (.box cs) ∧ AV.pures cs = true := by
  intro j i hj
  have hjl := (List.getElem?_eq_some_iff.1 hj).1
  have hc := List.getElem?_eq_getElem (show j < css.length by omega)
  exact ⟨_, hc, hlent j i _ hj hc⟩
 have hblk : ∀ i, posOf i ids ≠ none → ∃ b cs vs ty, M i = some (.pointer (some ⟨b, 0, none⟩)) ∧ st.heap[i]? = some (.box cs) ∧ ownB st.heap M i = some b ∧ AV.pures cs = true ∧ w.heap[b]? = some (.cells vs ty (0, 0)) ∧ vs.size = cs.length ∧ (∀ v ∈ vs, v.oneCell' = true) ∧ ∀ (k : Nat) v c, vs[k]? = some v → cs[k]? = some c → R Im w M v c := by
  intro i hi
  cases hp : posOf i ids with
  | none => exact absurd hp hi
  | some j =>
   obtain ⟨cs, _, h2, h3⟩ := hcs j i (posOf_get hp)
   obtain ⟨b, vs, ty, m1, m2, m3, m4, m5⟩ := hF.ob i _ h2
   exact ⟨b, cs, vs, ty, m1, h2, ownB_box h2 m1, h3, m2, m3, m4, m5⟩
 obtain ⟨M1, hM1⟩ : ∃ M1 : Nat → Option Value, M1 = fun j => match ids[j]? with | some i => M i | none => if posOf (j - ids.length) ids = none then M (j - ids.length) else none := ⟨_, rfl⟩
 have hM1l : ∀ (j i : Nat), ids[j]? = some i → M1 j = M i := by intro j i hj; rw [hM1]; simp only [hj]
 have hM1r : ∀ i, M1 (ids.length + i) = if posOf i ids = none then M i else none := by
  intro i; rw [hM1]
  simp only [List.getElem?_eq_none (show ids.length ≤ ids.length + i by omega), Nat.add_sub_cancel_left]
 have hM1f : ∀ i u, M i = some u → M1 (lendF ids i) = some u := by
  intro i u hu
  unfold lendF
  cases hp : posOf i ids with
  | some j => simp only; rw [hM1l j i (posOf_get hp)]; exact hu
  | none => simp only; rw [Nat.add_comm, hM1r, if_pos hp]; exact hu
 obtain ⟨Im1, hIm1⟩ : ∃ Im1 : Nat → Prop, Im1 = fun b => Im b ∨ ∃ i, posOf i ids ≠ none ∧ ownB st.heap M i = some b := ⟨_, rfl⟩
 have hIm : ∀ b, Im b → Im1 b := fun b hb => by rw [hIm1]; exact .inl hb
 obtain ⟨S1, hS1⟩ : ∃ S1 : Nat → Prop, S1 = fun b => ∃ i, posOf i ids = none ∧ ownB st.heap M i = some b := ⟨_, rfl⟩
 have hgetl : ∀ (j i : Nat), ids[j]? = some i → ∃ cs, css[j]? = some cs ∧ (lendIn ids css st).heap[j]? = some (HO.ibox cs) ∧ st.heap[i]? = some (HO.box cs) := by
  intro j i hj
  obtain ⟨cs, h1, h2, _⟩ := hcs j i hj
  refine ⟨cs, h1, ?_, h2⟩
  have hjl := (List.getElem?_eq_some_iff.1 h1).1
  simp only [lendIn]
  rw [List.getElem?_append_left (by simpa using hjl), List.getElem?_map, h1]; rfl
 have hgetr : ∀ i, (lendIn ids css st).heap[ids.length + i]? = (st.heap[i]?).map fun o => if posOf i ids = none then bareO o else .un := by
  intro i
  simp only [lendIn]
  rw [List.getElem?_append_right (by rw [List.length_map]; omega), List.length_map, ← hlen, Nat.add_sub_cancel_left, inO_get, Nat.zero_add]
 have hown1 : ∀ j b, ownB (lendIn ids css st).heap M1 j = some b → ∃ i, j = ids.length + i ∧ posOf i ids = none ∧ ownB st.heap M i = some b := by
  intro j b hb
  by_cases hj : j < ids.length
  ·obtain ⟨cs, _, h2, _⟩ := hgetl j _ (List.getElem?_eq_getElem hj)
   unfold ownB at hb; rw [h2] at hb; cases hb
  ·obtain ⟨i, rfl⟩ : ∃ i, j = ids.length + i := ⟨j - ids.length, by omega⟩
   refine ⟨i, rfl, ?_⟩
   have hg := hgetr i
   cases ho : st.heap[i]? with
   | none => rw [ho] at hg; unfold ownB at hb; rw [hg] at hb; cases hb
   | some o =>
    rw [ho] at hg
    by_cases hp : posOf i ids = none
    ·refine ⟨hp, bareO_own ho (by rw [hg]; simp [hp]) (by rw [hM1r, if_pos hp]) hb⟩
    ·unfold ownB at hb; rw [hg] at hb; simp [hp] at hb
 have hF1 : FRx ⟨w, Im1, S1, M1⟩ Im1 M1 (lendIn ids css st) a w := by
  refine ⟨Keeps.refl _ _, fun _ h => h, fun _ h => .inl h, fun b hb => ?_, by rw [hF.tl]; simp [lendIn], fun i x hx => ?_, fun j o hj => ?_, fun j hj => ?_, fun i j b hij h1 h2 => ?_, fun j b hb => ?_, fun _ _ => rfl, hF.df⟩
  ·rw [hIm1] at hb
   rcases hb with hb | ⟨i, _, hb⟩
   ·exact hF.imlt b hb
   ·exact (hF.sep i b hb).2.2
  ·simp only [lendIn, List.getElem?_map, Option.map_eq_some_iff] at hx
   obtain ⟨y, hy, rfl⟩ := hx
   obtain ⟨v, hv, hr⟩ := hF.tm i y hy
   refine ⟨v, hv, ?_⟩
   unfold inV
   split
   ·exact (hr.mp hM1f).im hIm
   ·exact .junk _
  ·by_cases hjl : j < ids.length
   ·have hji := List.getElem?_eq_getElem hjl
    obtain ⟨cs, _, h2, h3⟩ := hgetl j _ hji
    rw [h2] at hj; cases hj
    have hpp : posOf ids[j] ids ≠ none := by rw [posOf_of hnd hji]; simp
    obtain ⟨b, cs', vs, ty, m1, m2, m3, m4, m5, m6, m7, m8⟩ := hblk _ hpp
    rw [h3] at m2; cases m2
    have hIb : Im1 b := by rw [hIm1]; exact .inr ⟨_, hpp, m3⟩
    refine ⟨b, (hM1l j _ hji).trans m1, .cptr ⟨b, 0, none⟩ cs (fun j => vs.getD j undef) hIb (fun k y hk => ?_) (fun k y hk => ?_) (fun k y hk => ?_)⟩
    all_goals
     have hk' : k < vs.size := by have := (List.getElem?_eq_some_iff.1 hk).1; omega
    ·rw [add_lit, Nat.zero_add, cell_heap m5]; simp [hk']
    ·simp only [Array.getD_eq_getD_getElem?, Array.getElem?_eq_getElem hk', Option.getD_some]
     exact m7 _ (Array.getElem_mem hk')
    ·simp only [Array.getD_eq_getD_getElem?, Array.getElem?_eq_getElem hk', Option.getD_some]
     exact (R_pure (m8 k _ y (Array.getElem?_eq_getElem hk') hk) (pures_at k y m4 hk)).im hIm
   ·obtain ⟨i, rfl⟩ : ∃ i, j = ids.length + i := ⟨j - ids.length, by omega⟩
    rw [hgetr] at hj
    cases ho : st.heap[i]? with
    | none => rw [ho] at hj; cases hj
    | some o' =>
     rw [ho] at hj
     simp only [Option.map_some, Option.some.injEq] at hj
     by_cases hp : posOf i ids = none
     ·rw [if_pos hp] at hj; subst hj
      exact bareO_RO (hF.ob i o' ho) (by rw [hM1r, if_pos hp]) (fun _ _ _ _ => rfl)
     ·rw [if_neg hp] at hj; subst hj
      show M1 _ = none
      rw [hM1r, if_neg hp]
  ·simp only [lendIn, List.length_append, List.length_map] at hj
   obtain ⟨i, rfl⟩ : ∃ i, j = ids.length + i := ⟨j - ids.length, by omega⟩
   rw [hM1r]
   split
   ·refine hF.out i ?_
    have hgl : (inO ids 0 st.heap).length = st.heap.length := by
     have : ∀ (l : List HO) k, (inO ids k l).length = l.length := by
      intro l; induction l with
      | nil => intro k; rfl
      | cons o l ih => intro k; simp [inO, ih]
     exact this _ _
    omega
   ·rfl
  ·obtain ⟨i', rfl, _, e1⟩ := hown1 i b h1
   obtain ⟨j', rfl, _, e2⟩ := hown1 j b h2
   exact hF.own i' j' b (fun e => hij (by rw [e])) e1 e2
  ·obtain ⟨i, rfl, hp, e1⟩ := hown1 j b hb
   obtain ⟨s1, s2, s3⟩ := hF.sep i b e1
   refine ⟨?_, .inl ?_, s3⟩
   ·rw [hIm1]
    rintro (hb | ⟨k, hk, hb⟩)
    ·exact s1 hb
    ·exact hF.own i k b (fun e => hk (e ▸ hp)) e1 hb
   ·rw [hS1]; exact ⟨i, hp, e1⟩
 refine wp_mono (h.run ⟨w, Im1, S1, M1⟩ a w ⟨Im1, M1, hF1⟩) ?_
 rintro e a' w' ⟨s, ⟨hsk, hun, hQ⟩, I', M', hG⟩
 refine ⟨_, hQ, Im, fun i => if posOf i ids = none then M' (ids.length + i) else M i, ?_⟩
 have hun' : ∀ i, posOf i ids ≠ none → s.heap[ids.length + i]? = some .un := by
  intro i hi
  cases hp : posOf i ids with
  | none => exact absurd hp hi
  | some j =>
   have := List.all_eq_true.1 hun i (List.mem_of_getElem? (posOf_get hp))
   split at this
   ·rename_i hx; exact hx
   ·cases this
 have hkeep : ∀ i b, posOf i ids ≠ none → ownB st.heap M i = some b → w'.heap[b]? = w.heap[b]? := by
  intro i b hi hb
  refine hG.kp.block b (hF.sep i b hb).2.2 ?_
  show ¬ S1 b
  rw [hS1]
  rintro ⟨k, hk, hb'⟩
  exact hF.own i k b (fun e => hi (e ▸ hk)) hb hb'
 have hkeepI : ∀ b, Im b → w'.heap[b]? = w.heap[b]? := by
  intro b hb
  refine hG.kp.block b (hF.imlt b hb) ?_
  show ¬ S1 b
  rw [hS1]
  rintro ⟨k, _, hb'⟩
  exact (hF.sep k b hb').1 hb
 have hget2 : ∀ i, (lendOut ids css s).heap[i]? = (s.heap[ids.length + i]?).map fun o => match posOf i ids with | some j => .box (css.getD j []) | none => bareO o := by
  intro i
  simp only [lendOut]
  rw [outO_get, List.getElem?_drop, Nat.zero_add]
 have hown2 : ∀ i b, ownB (lendOut ids css s).heap (fun i => if posOf i ids = none then M' (ids.length + i) else M i) i = some b → (posOf i ids ≠ none ∧ ownB st.heap M i = some b) ∨ (posOf i ids = none ∧ ownB s.heap M' (ids.length + i) = some b) := by
  intro i b hb
  by_cases hp : posOf i ids = none
  ·refine .inr ⟨hp, ?_⟩
   have hg := hget2 i
   cases ho : s.heap[ids.length + i]? with
   | none => rw [ho] at hg; unfold ownB at hb; rw [hg] at hb; cases hb
   | some o =>
    rw [ho] at hg
    exact bareO_own (M' := fun i => if posOf i ids = none then M' (ids.length + i) else M i) ho (by rw [hg]; simp [hp]) (by simp [hp]) hb
  ·refine .inl ⟨hp, ?_⟩
   obtain ⟨b', cs, vs, ty, m1, m2, m3, _⟩ := hblk i hp
   have hg := hget2 i
   rw [hun' i hp] at hg
   cases hq : posOf i ids with
   | none => exact absurd hq hp
   | some j =>
    rw [hq] at hg
    unfold ownB at hb
    rw [hg] at hb
    simp only [Option.map_some, hq, m1] at hb
    simp at hb
    rw [m3, hb]
 refine ⟨hF.kp.trans hG.kp (fun b hb => ?_), hF.im0, hF.im1, fun b hb => Nat.lt_of_lt_of_le (hF.imlt b hb) hG.kp.size, by rw [hG.tl]; simp [lendOut], fun i x hx => ?_, fun i o hi => ?_, fun i hi => ?_, fun i j b hij h1 h2 => ?_, fun i b hb => ?_, fun i hi => absurd hi (by simp [lendOut]), hG.df⟩
 ·have : S1 b := hb
  rw [hS1] at this
  obtain ⟨i, _, hb⟩ := this
  exact (hF.sep i b hb).2.1
 ·simp only [lendOut, List.getElem?_map, Option.map_eq_some_iff] at hx
  obtain ⟨y, hy, rfl⟩ := hx
  obtain ⟨v, hv, hr⟩ := hG.tm i y hy
  refine ⟨v, hv, R_outV hr fun j u hu => ?_⟩
  unfold lendG
  by_cases hj : j < ids.length
  ·have hji := List.getElem?_eq_getElem hj
   rw [hji]
   simp only
   rw [if_neg (by rw [posOf_of hnd hji]; simp), ← hM1l j _ hji]
   exact (hG.mm j (by rw [hsk]; exact hj)).symm.trans hu
  ·obtain ⟨k, rfl⟩ : ∃ k, j = ids.length + k := ⟨j - ids.length, by omega⟩
   have e : (match ids[ids.length + k]? with | some i => i | none => ids.length + k - ids.length) = k := by
    rw [List.getElem?_eq_none (by omega)]; simp
   rw [e]
   by_cases hp : posOf k ids = none
   ·rw [if_pos hp]; exact hu
   ·have := hG.ob _ _ (hun' k hp)
    rw [show M' (ids.length + k) = none from this] at hu
    cases hu
 ·rw [hget2] at hi
  cases ho : s.heap[ids.length + i]? with
  | none => rw [ho] at hi; cases hi
  | some o' =>
   rw [ho] at hi
   cases hq : posOf i ids with
   | none =>
    rw [hq] at hi
    simp only [Option.map_some, Option.some.injEq] at hi
    subst hi
    exact bareO_RO (hG.ob _ o' ho) (by simp [hq]) (fun _ _ _ _ => rfl)
   | some j =>
    rw [hq] at hi
    simp only [Option.map_some, Option.some.injEq] at hi
    subst hi
    have hp : posOf i ids ≠ none := by rw [hq]; simp
    obtain ⟨b, cs, vs, ty, m1, m2, m3, m4, m5, m6, m7, m8⟩ := hblk i hp
    obtain ⟨cs', c1, c2, _⟩ := hcs j i (posOf_get hq)
    rw [m2] at c2; cases c2
    rw [List.getD_eq_getElem?_getD, c1, Option.getD_some]
    refine ⟨b, vs, ty, by simp [hq, m1], by rw [hkeep i b hp m3]; exact m5, m6, m7, fun k v c hv hc => ?_⟩
    exact (R_pure (m8 k v c hv hc) (pures_at k c m4 hc)).mono (fun _ h => h) hkeepI (fun _ _ h => by cases h)
 ·have hsl : s.heap.length ≤ ids.length + i := by
   have hol : (lendOut ids css s).heap.length = s.heap.length - ids.length := by
    have : ∀ (l : List HO) k, (outO ids css k l).length = l.length := by
     intro l; induction l with
     | nil => intro k; rfl
     | cons o l ih => intro k; simp [outO, ih]
    simp only [lendOut, this, List.length_drop]
   omega
  by_cases hp : posOf i ids = none
  ·simp only [hp, if_true]; exact hG.out _ hsl
  ·have := (List.getElem?_eq_some_iff.1 (hun' i hp)).1; omega
 ·rcases hown2 i b h1 with ⟨p1, e1⟩ | ⟨p1, e1⟩ <;> rcases hown2 j b h2 with ⟨p2, e2⟩ | ⟨p2, e2⟩
  ·exact hF.own i j b hij e1 e2
  ·rcases (hG.sep _ b e2).2.1 with hs | hs
   ·have : S1 b := hs
    rw [hS1] at this
    obtain ⟨k, hk, hb⟩ := this
    exact hF.own i k b (fun e => p1 (e ▸ hk)) e1 hb
   ·have := (hF.sep i b e1).2.2
    exact absurd hs (by simp only; omega)
  ·rcases (hG.sep _ b e1).2.1 with hs | hs
   ·have : S1 b := hs
    rw [hS1] at this
    obtain ⟨k, hk, hb⟩ := this
    exact hF.own j k b (fun e => p2 (e ▸ hk)) e2 hb
   ·have := (hF.sep j b e2).2.2
    exact absurd hs (by simp only; omega)
  ·exact hG.own _ _ b (by omega) e1 e2
 ·rcases hown2 i b hb with ⟨_, e1⟩ | ⟨_, e1⟩
  ·obtain ⟨s1, s2, s3⟩ := hF.sep i b e1
   exact ⟨s1, s2, Nat.lt_of_lt_of_le s3 hG.kp.size⟩
  ·obtain ⟨s1, s2, s3⟩ := hG.sep _ b e1
   refine ⟨fun hb => s1 (hG.im0 b (hIm b hb)), ?_, s3⟩
   rcases s2 with hs | hs
   ·have : S1 b := hs
    rw [hS1] at this
    obtain ⟨k, _, hb⟩ := this
    exact (hF.sep k b hb).2.1
   ·exact .inr (Nat.le_trans hF.kp.size hs)
end Go.Proofs.YtmnpiofabgfcmaaT
