/- Walks over the program's functions, on values without memory, and what they come to. No condition. -/
import Derived.Test.YtodfkdnkgedgeaaTw13
set_option linter.unusedVariables false
set_option linter.unusedSimpArgs false
namespace Go.Proofs.YtodfkdnkgedgeaaT
open Go Go.RowKit
variable {cx : Cx} {Im : Nat → Prop} {M : Nat → Option Value} {st : St} {a : Act} {w : World} {P : Program}
mutual
def scr (ids : List Nat) : AV → AV
 | .bsl id => if ids.contains id = true then .junk else .bsl id
 | .ptr id off => if ids.contains id = true then .junk else .ptr id off
 | .eptr id i s f => if ids.contains id = true then .junk else .eptr id i s f
 | .fn f cs => .fn f (scrL ids cs)
 | .agg cs => .agg (scrL ids cs)
 | .tup cs => .tup (scrL ids cs)
 | .int k n => .int k n
 | .bool b => .bool b
 | .str s => .str s
 | .nils => .nils
 | .sl f es => .sl f es
 | .nilp => .nilp
 | .cptr cs => .cptr cs
 | .nilf => .nilf
 | .junk => .junk
def scrL (ids : List Nat) : List AV → List AV
 | [] => []
 | x :: l => scr ids x :: scrL ids l
end
def scrO (ids : List Nat) : HO → HO
 | .box cs => .box (scrL ids cs)
 | o => o
def scrH (ids : List Nat) : Nat → List HO → List HO
 | _, [] => []
 | i, o :: l => (if ids.contains i = true then .un else scrO ids o) :: scrH ids (i + 1) l
def forget (ids : List Nat) (st : St) : St := ⟨scrL ids st.tmps, scrH ids 0 st.heap, st.k⟩
theorem scrL_get (ids : List Nat) : ∀ (cs : List AV), (scrL ids cs).length = cs.length ∧ ∀ (i : Nat), (scrL ids cs)[i]? = (cs[i]?).map (scr ids)
 | [] => ⟨rfl, fun i => by simp [scrL]⟩
 | c :: cs => by
  obtain ⟨h1, h2⟩ := scrL_get ids cs
  refine ⟨by simp [scrL, h1], fun i => ?_⟩
  cases i with
  | zero => simp [scrL]
  | succ i => simpa [scrL] using h2 i
theorem scrH_get (ids : List Nat) : ∀ (l : List HO) (k : Nat), (scrH ids k l).length = l.length ∧ ∀ (i : Nat), (scrH ids k l)[i]? = (l[i]?).map fun o => if ids.contains (k + i) = true then .un else scrO ids o
 | [], k => ⟨rfl, fun i => by simp [scrH]⟩
 | o :: l, k => by
  obtain ⟨h1, h2⟩ := scrH_get ids l (k + 1)
  refine ⟨by simp [scrH, h1], fun i => ?_⟩
  cases i with
  | zero => simp [scrH]
  | succ i =>
   simp only [scrH, List.getElem?_cons_succ]
   rw [h2 i, show k + 1 + i = k + (i + 1) from by omega]
theorem R.scr {ids : List Nat} {v : Value} {x : AV} (h : R Im w M v x) : R Im w (fun i => if ids.contains i = true then none else M i) v (scr ids x) := by
 have hp : ∀ {vs : Array Value} {cs : List AV}, vs.size = cs.length → (∀ (i : Nat) v c, vs[i]? = some v → cs[i]? = some c → R Im w (fun i => if ids.contains i = true then Option.none else M i) v (Go.Proofs.YtodfkdnkgedgeaaT.scr ids c)) →
   vs.size = (scrL ids cs).length ∧ ∀ (i : Nat) v d, vs[i]? = some v → (scrL ids cs)[i]? = some d → R Im w (fun i => if ids.contains i = true then Option.none else M i) v d := by
  intro vs cs hs hih
  obtain ⟨h1, h2⟩ := scrL_get ids cs
  refine ⟨hs.trans h1.symm, fun i v d hv hd => ?_⟩
  rw [h2 i] at hd
  obtain ⟨c, hc, rfl⟩ := Option.map_eq_some_iff.1 hd
  exact hih i v c hv hc
 induction h with
 | int k n => exact .int _ _
 | bool b => exact .bool _
 | str s => exact .str _
 | nils => exact .nils
 | sl o c full es ad sz cs hc hf hm ha hl hr ho hv ih => exact .sl o c full es ad sz cs hc hf hm ha hl hr ho hv
 | bsl id o n c h =>
  simp only [Go.Proofs.YtodfkdnkgedgeaaT.scr]
  by_cases hc : ids.contains id = true
  ·rw [if_pos hc]; exact .junk _
  ·rw [if_neg hc]; exact .bsl id o n c (by simp only [if_neg hc]; exact h)
 | nilp => exact .nilp
 | ptr id off b h =>
  simp only [Go.Proofs.YtodfkdnkgedgeaaT.scr]
  by_cases hc : ids.contains id = true
  ·rw [if_pos hc]; exact .junk _
  ·rw [if_neg hc]; exact .ptr id off b (by simp only [if_neg hc]; exact h)
 | eptr id idx sz foff g n c h =>
  simp only [Go.Proofs.YtodfkdnkgedgeaaT.scr]
  by_cases hc : ids.contains id = true
  ·rw [if_pos hc]; exact .junk _
  ·rw [if_neg hc]; exact .eptr id idx sz foff g n c (by simp only [if_neg hc]; exact h)
 | cptr ad cells cs hi hr ho hv ih => exact .cptr ad cells cs hi hr ho hv
 | nilf => exact .nilf
 | fn f vs cs hs h ih => obtain ⟨h1, h2⟩ := hp hs (fun i v c hv hc => ih i v c hv hc hp); exact .fn f vs _ h1 h2
 | agg vs cs hs ho h ih => obtain ⟨h1, h2⟩ := hp hs (fun i v c hv hc => ih i v c hv hc hp); exact .agg vs _ h1 ho h2
 | tup vs cs hs h ih => obtain ⟨h1, h2⟩ := hp hs (fun i v c hv hc => ih i v c hv hc hp); exact .tup vs _ h1 h2
 | junk v => exact .junk v
theorem ownB_scr {ids : List Nat} {h : List HO} {i b : Nat} (hb : ownB (scrH ids 0 h) (fun i => if ids.contains i = true then none else M i) i = some b) : ownB h M i = some b := by
 unfold ownB at hb ⊢
 rw [(scrH_get ids h 0).2 i, Nat.zero_add] at hb
 by_cases hc : ids.contains i = true
 ·simp only [if_pos hc] at hb
  split at hb <;> simp_all
 ·simp only [if_neg hc] at hb
  cases ho : h[i]? with
  | none => rw [ho] at hb; simp at hb
  | some o =>
   rw [ho] at hb
   cases o with
   | box cs =>
    simp only [Option.map_some, scrO, Bool.not_eq_true, if_false, Bool.false_eq_true] at hb
    cases hM : M i with
    | none => rw [hM] at hb; cases hb
    | some v =>
     rw [hM] at hb
     cases v with
     | pointer p => cases p <;> first | exact hb | cases hb
     | _ => cases hb
   | arr e sz es => simpa [scrO] using hb
   | iter s p => simpa [scrO] using hb
   | _ => simp [scrO] at hb
theorem Sub_forget (ids : List Nat) (hk : ids.all (fun i => decide (st.k ≤ i)) = true) : Sub st (forget ids st) := by
 rintro cx a w ⟨Im, M, h⟩
 obtain ⟨t1, t2⟩ := scrL_get ids st.tmps
 obtain ⟨h1, h2⟩ := scrH_get ids st.heap 0
 refine ⟨Im, fun i => if ids.contains i = true then none else M i, h.kp, h.im0, h.im1, h.imlt, by simp only [forget, t1]; exact h.tl, fun i x hx => ?_, fun i o ho => ?_, fun i hi => ?_, fun i j b hij hi hj => ?_, fun i b hb => ?_, fun i hi => ?_, h.df⟩
 ·simp only [forget, t2 i] at hx
  obtain ⟨y, hy, rfl⟩ := Option.map_eq_some_iff.1 hx
  obtain ⟨v, hv, hr⟩ := h.tm i y hy
  exact ⟨v, hv, hr.scr⟩
 ·simp only [forget, h2 i, Nat.zero_add] at ho
  obtain ⟨p, hp, rfl⟩ := Option.map_eq_some_iff.1 ho
  by_cases hc : ids.contains i = true
  ·rw [if_pos hc]
   show (if ids.contains i = true then none else M i) = none
   rw [if_pos hc]
  ·rw [if_neg hc]
   have hp' := h.ob i p hp
   cases p with
   | un => show (if ids.contains i = true then none else M i) = none; rw [if_neg hc]; exact hp'
   | dead => trivial
   | box cs =>
    obtain ⟨b, vs, ty, k1, k2, k3, k4, k5⟩ := hp'
    obtain ⟨s1, s2⟩ := scrL_get ids cs
    refine ⟨b, vs, ty, by simp only [if_neg hc]; exact k1, k2, k3.trans s1.symm, k4, fun j v c hv hcc => ?_⟩
    rw [s2 j] at hcc
    obtain ⟨c', hc', rfl⟩ := Option.map_eq_some_iff.1 hcc
    exact (k5 j v c' hv hc').scr
   | ibox cs => obtain ⟨b, k1, k2⟩ := hp'; exact ⟨b, by simp only [if_neg hc]; exact k1, k2⟩
   | arr e sz es => obtain ⟨v, xs, k1, k2, k3⟩ := hp'; exact ⟨v, xs, by simp only [if_neg hc]; exact k1, k2, k3⟩
   | imm es => obtain ⟨v, k1, k2⟩ := hp'; exact ⟨v, by simp only [if_neg hc]; exact k1, k2⟩
   | iter s p => obtain ⟨b, k1, k2⟩ := hp'; exact ⟨b, by simp only [if_neg hc]; exact k1, k2⟩
 ·simp only [forget, h1] at hi
  simp only [h.out i hi, ite_self]
 ·exact h.own i j b hij (ownB_scr hi) (ownB_scr hj)
 ·exact h.sep i b (ownB_scr hb)
 ·have hc : ¬ ids.contains i = true := by
   intro hc
   have := List.all_eq_true.1 hk i (by simpa using hc)
   have : st.k ≤ i := by simpa using this
   have hi' : i < st.k := hi
   omega
  simp only [if_neg hc]
  exact h.mm i hi
def sw (i j n : Nat) : Nat := if n = i then j else if n = j then i else n
theorem sw_sw (i j n : Nat) : sw i j (sw i j n) = n := by unfold sw; repeat' split <;> simp_all
mutual
def ren (i j : Nat) : AV → AV
 | .bsl id => .bsl (sw i j id)
 | .ptr id off => .ptr (sw i j id) off
 | .eptr id k s f => .eptr (sw i j id) k s f
 | .fn f cs => .fn f (renL i j cs)
 | .agg cs => .agg (renL i j cs)
 | .tup cs => .tup (renL i j cs)
 | .int k n => .int k n
 | .bool b => .bool b
 | .str s => .str s
 | .nils => .nils
 | .sl f es => .sl f es
 | .nilp => .nilp
 | .cptr cs => .cptr cs
 | .nilf => .nilf
 | .junk => .junk
def renL (i j : Nat) : List AV → List AV
 | [] => []
 | x :: l => ren i j x :: renL i j l
end
def renO (i j : Nat) : HO → HO
 | .box cs => .box (renL i j cs)
 | o => o
def swap (i j : Nat) (st : St) : St := ⟨renL i j st.tmps, ((st.heap.set i (st.heap.getD j .dead)).set j (st.heap.getD i .dead)).map (renO i j), st.k⟩
theorem renL_get (i j : Nat) : ∀ (cs : List AV), (renL i j cs).length = cs.length ∧ ∀ (k : Nat), (renL i j cs)[k]? = (cs[k]?).map (ren i j)
 | [] => ⟨rfl, fun k => by simp [renL]⟩
 | c :: cs => by
  obtain ⟨h1, h2⟩ := renL_get i j cs
  refine ⟨by simp [renL, h1], fun k => ?_⟩
  cases k with
  | zero => simp [renL]
  | succ k => simpa [renL] using h2 k
theorem R.ren {i j : Nat} {v : Value} {x : AV} (h : R Im w M v x) : R Im w (fun n => M (sw i j n)) v (ren i j x) := by
 have hp : ∀ {vs : Array Value} {cs : List AV}, vs.size = cs.length → (∀ (k : Nat) v c, vs[k]? = some v → cs[k]? = some c → R Im w (fun n => M (sw i j n)) v (Go.Proofs.YtodfkdnkgedgeaaT.ren i j c)) →
   vs.size = (renL i j cs).length ∧ ∀ (k : Nat) v d, vs[k]? = some v → (renL i j cs)[k]? = some d → R Im w (fun n => M (sw i j n)) v d := by
  intro vs cs hs hih
  obtain ⟨h1, h2⟩ := renL_get i j cs
  refine ⟨hs.trans h1.symm, fun k v d hv hd => ?_⟩
  rw [h2 k] at hd
  obtain ⟨c, hc, rfl⟩ := Option.map_eq_some_iff.1 hd
  exact hih k v c hv hc
 induction h with
 | int k n => exact .int _ _
 | bool b => exact .bool _
 | str s => exact .str _
 | nils => exact .nils
 | sl o c full es ad sz cs hc hf hm ha hl hr ho hv ih => exact .sl o c full es ad sz cs hc hf hm ha hl hr ho hv
 | bsl id o n c h => exact .bsl _ o n c (by rw [sw_sw]; exact h)
 | nilp => exact .nilp
 | ptr id off b h => exact .ptr _ off b (by rw [sw_sw]; exact h)
 | eptr id idx sz foff g n c h => exact .eptr _ idx sz foff g n c (by rw [sw_sw]; exact h)
 | cptr ad cells cs hi hr ho hv ih => exact .cptr ad cells cs hi hr ho hv
 | nilf => exact .nilf
 | fn f vs cs hs h ih => obtain ⟨h1, h2⟩ := hp hs (fun i v c hv hc => ih i v c hv hc hp); exact .fn f vs _ h1 h2
 | agg vs cs hs ho h ih => obtain ⟨h1, h2⟩ := hp hs (fun i v c hv hc => ih i v c hv hc hp); exact .agg vs _ h1 ho h2
 | tup vs cs hs h ih => obtain ⟨h1, h2⟩ := hp hs (fun i v c hv hc => ih i v c hv hc hp); exact .tup vs _ h1 h2
 | junk v => exact .junk v
theorem swap_get {i j : Nat} {h : List HO} (hi : i < h.length) (hj : j < h.length) (n : Nat) : (((h.set i (h.getD j .dead)).set j (h.getD i .dead)).map (renO i j))[n]? = (h[sw i j n]?).map (renO i j) := by
 rw [List.getElem?_map]
 congr 1
 unfold sw
 by_cases hnj : n = j
 ·subst hnj
  rw [List.getElem?_set_self (by simpa using hj)]
  by_cases hni : n = i
  ·subst hni; rw [if_pos rfl, List.getD_eq_getElem?_getD, List.getElem?_eq_getElem hj]; rfl
  ·rw [if_neg hni, if_pos rfl, List.getD_eq_getElem?_getD, List.getElem?_eq_getElem hi]; rfl
 ·rw [List.getElem?_set_ne (fun e => hnj e.symm)]
  by_cases hni : n = i
  ·subst hni
   rw [if_pos rfl, List.getElem?_set_self hi, List.getD_eq_getElem?_getD, List.getElem?_eq_getElem hj]; rfl
  ·rw [if_neg hni, if_neg hnj, List.getElem?_set_ne (fun e => hni e.symm)]
theorem Sub_swap (i j : Nat) (hi : i < st.heap.length) (hj : j < st.heap.length) (hki : st.k ≤ i) (hkj : st.k ≤ j) : Sub st (swap i j st) := by
 rintro cx a w ⟨Im, M, h⟩
 obtain ⟨t1, t2⟩ := renL_get i j st.tmps
 have hg := swap_get (i := i) (j := j) hi hj
 have hB : ∀ n, ownB (((st.heap.set i (st.heap.getD j .dead)).set j (st.heap.getD i .dead)).map (renO i j)) (fun n => M (sw i j n)) n = ownB st.heap M (sw i j n) := by
  intro n
  unfold ownB
  rw [hg n]
  cases hs : st.heap[sw i j n]? with
  | none => rfl
  | some o =>
   cases o with
   | box cs =>
    simp only [Option.map_some, renO]
    cases M (sw i j n) with
    | none => rfl
    | some v =>
     cases v with
     | pointer p => cases p <;> rfl
     | _ => rfl
   | _ => rfl
 have hlt : ∀ n, st.heap.length ≤ n → sw i j n = n := by intro n hn; unfold sw; rw [if_neg (by omega), if_neg (by omega)]
 refine ⟨Im, fun n => M (sw i j n), h.kp, h.im0, h.im1, h.imlt, by simp only [swap, t1]; exact h.tl, fun n x hx => ?_, fun n o ho => ?_, fun n hn => ?_, fun n m b hnm hn hm => ?_, fun n b hb => ?_, fun n hn => ?_, h.df⟩
 ·simp only [swap, t2 n] at hx
  obtain ⟨y, hy, rfl⟩ := Option.map_eq_some_iff.1 hx
  obtain ⟨v, hv, hr⟩ := h.tm n y hy
  exact ⟨v, hv, hr.ren⟩
 ·simp only [swap, hg n] at ho
  obtain ⟨p, hp, rfl⟩ := Option.map_eq_some_iff.1 ho
  have hp' := h.ob _ p hp
  cases p with
  | un => exact hp'
  | dead => trivial
  | box cs =>
   obtain ⟨b, vs, ty, k1, k2, k3, k4, k5⟩ := hp'
   obtain ⟨s1, s2⟩ := renL_get i j cs
   refine ⟨b, vs, ty, k1, k2, k3.trans s1.symm, k4, fun m v c hv hcc => ?_⟩
   rw [s2 m] at hcc
   obtain ⟨c', hc', rfl⟩ := Option.map_eq_some_iff.1 hcc
   exact (k5 m v c' hv hc').ren
  | ibox cs => exact hp'
  | arr e sz es => exact hp'
  | imm es => exact hp'
  | iter s p => exact hp'
 ·simp only [swap, List.length_map, List.length_set] at hn
  show M (sw i j n) = none
  rw [hlt n hn]
  exact h.out n hn
 ·simp only [swap, hB] at hn hm
  exact h.own _ _ b (fun e => hnm (by have := congrArg (sw i j) e; rwa [sw_sw, sw_sw] at this)) hn hm
 ·simp only [swap, hB] at hb
  exact h.sep _ b hb
 ·have hn' : n < st.k := hn
  have : sw i j n = n := by unfold sw; rw [if_neg (by omega), if_neg (by omega)]
  show M (sw i j n) = _
  rw [this]
  exact h.mm n hn'
def grow (t id e sz : Nat) (st : St) : St := ⟨st.tmps.set t (.bsl id), st.heap.set id (.arr e sz []), st.k⟩
theorem Sub_grow {t id : Nat} (e sz : Nat) (ht : st.tmps[t]? = some .nils) (hid : st.heap[id]? = some .un) (hk : st.k ≤ id) : Sub st (grow t id e sz st) := by
 rintro cx a w ⟨Im, M, h⟩
 have hn := h.new hid hk (w' := w) h.kp (Nat.le_refl _) (fun _ _ => rfl) (fun _ _ _ => rfl) (.slice none 0 0) (.arr e sz []) ⟨_, [], by simp, w.ownsRow_nil 0 e sz, Chunks.nil _⟩ (fun b hb => by
  unfold ownB at hb
  rw [List.getElem?_set_self (List.getElem?_eq_some_iff.1 hid).1] at hb
  simp [Value.ownBlock] at hb)
 obtain ⟨v, hv, hr⟩ := h.tm t _ ht
 have := R_nils hr
 subst this
 refine ⟨Im, _, hn.kp, hn.im0, hn.im1, hn.imlt, by simp only [grow, List.length_set]; exact h.tl, fun i x hx => ?_, hn.ob, hn.out, hn.own, hn.sep, hn.mm, hn.df⟩
 simp only [grow] at hx
 by_cases hi : t = i
 ·subst hi
  rw [List.getElem?_set_self (List.getElem?_eq_some_iff.1 ht).1] at hx
  cases hx
  exact ⟨_, hv, .bsl _ _ _ _ (by simp)⟩
 ·rw [List.getElem?_set_ne hi] at hx
  exact hn.tm i x hx
def growIn (b f id e sz : Nat) (cs : List AV) (st : St) : St := ⟨st.tmps, (st.heap.set id (.arr e sz [])).set b (.box (cs.set f (.bsl id))), st.k⟩
theorem Sub_growIn {b f id : Nat} (e sz : Nat) {cs : List AV} (hb : st.heap[b]? = some (.box cs)) (hf : cs[f]? = some .nils) (hid : st.heap[id]? = some .un) (hk : st.k ≤ id) : Sub st (growIn b f id e sz cs st) := by
 rintro cx a w ⟨Im, M, h⟩
 have hn := h.new hid hk (w' := w) h.kp (Nat.le_refl _) (fun _ _ => rfl) (fun _ _ _ => rfl) (.slice none 0 0) (.arr e sz []) ⟨_, [], by simp, w.ownsRow_nil 0 e sz, Chunks.nil _⟩ (fun b hb => by
  unfold ownB at hb
  rw [List.getElem?_set_self (List.getElem?_eq_some_iff.1 hid).1] at hb
  simp [Value.ownBlock] at hb)
 have hne : id ≠ b := fun e => by subst e; rw [hb] at hid; cases hid
 have hb' : (hset st id (.arr e sz [])).heap[b]? = some (.box cs) := by simp only [hset]; rw [List.getElem?_set_ne hne]; exact hb
 obtain ⟨bl, vs, ty, k1, k2, k3, k4, k5⟩ := hn.ob b _ hb'
 refine ⟨Im, _, hn.write (id := b) (b := bl) (w' := w) (ownB_box hb' k1) rfl rfl rfl rfl (fun _ _ => rfl) (o := .box (cs.set f (.bsl id))) ⟨bl, vs, ty, k1, k2, by rw [List.length_set]; exact k3, k4, fun i v c hv hc => ?_⟩ (fun c hc => ?_)⟩
 ·by_cases hi : f = i
  ·subst hi
   rw [List.getElem?_set_self (List.getElem?_eq_some_iff.1 hf).1] at hc
   cases hc
   have := R_nils (k5 f v _ hv hf)
   subst this
   exact .bsl _ _ _ _ (by simp)
  ·rw [List.getElem?_set_ne hi] at hc
   exact k5 i v c hv hc
 ·have := ownB_box (M := fun j => if j = id then some (.slice none 0 0) else M j) (List.getElem?_set_self (a := HO.box (cs.set f (.bsl id))) (List.getElem?_eq_some_iff.1 hb').1) k1
  rw [this] at hc
  cases hc; rfl
def blankL : List Bool → List AV → List AV
 | true :: m, _ :: l => .junk :: blankL m l
 | false :: m, x :: l => x :: blankL m l
 | [], l => l
 | _, [] => []
end Go.Proofs.YtodfkdnkgedgeaaT
