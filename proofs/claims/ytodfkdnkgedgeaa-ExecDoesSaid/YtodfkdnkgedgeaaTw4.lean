/- Walks over the program's functions, on values without memory, and what they come to. No condition. -/
import Derived.Test.YtodfkdnkgedgeaaTw3
set_option linter.unusedVariables false
set_option linter.unusedSimpArgs false
namespace Go.Proofs.YtodfkdnkgedgeaaT
open Go Go.RowKit
variable {cx : Cx} {Im : Nat → Prop} {M : Nat → Option Value} {st : St} {a : Act} {w : World} {P : Program} {K : St → Prop} {Q : Exit → Act → World → Prop}
def Kx (cx : Cx) (K : St → Prop) (a : Act) (w : World) : Prop := ∃ st, K st ∧ FR cx st a w
theorem wp_val {o : Oper} {v : Value} {w' : World} {N : Act → World → Prop} (hr : (execOp a.eval o).run P w = .ok (.value v) w') (h : N (a.put o.dst v) w') : o.wp P a w N Q := by
 unfold Oper.wp; rw [hr]; exact h
theorem wp_skp {o : Oper} {w' : World} {N : Act → World → Prop} (hr : (execOp a.eval o).run P w = .ok .skip w') (h : N (a.put o.dst undef) w') : o.wp P a w N Q := by
 unfold Oper.wp; rw [hr]; exact h
theorem Kx.mk (h : FRx cx Im M st a w) (hk : K st) : Kx cx K a w := ⟨st, hk, Im, M, h⟩
theorem run_sizeOf {t : TypeId} (h : 0 < P.cellsOf t) : (sizeOf t).run P w = .ok (P.cellsOf t) w := by
 unfold Program.cellsOf at h ⊢
 cases hi : P.info? t with
 | none => rw [hi] at h; simp at h
 | some i => simp [sizeOf, typeInfo, hi]
theorem elemOf_some {t e : TypeId} (h : elemOf P t = some e) : P.underlying t = some (.slice e) := by
 unfold elemOf at h
 split at h
 ·rename_i e' he; cases h; exact he
 ·cases h
theorem run_isAgg {t : TypeId} {d : TypeDesc} (h : P.underlying t = some d) : (Go.isAgg t).run P w = .ok (Go.Proofs.YtodfkdnkgedgeaaT.isAgg P t) w := by
 unfold Go.isAgg Go.Proofs.YtodfkdnkgedgeaaT.isAgg
 simp only [Sem.run_bind, run_underlying h, Result.andThen_ok, h]
 cases d <;> rfl
theorem R_cells {v : Value} {x : AV} (h : R Im w M v x) (hs : x.solid = true) : v.cells.size = x.cells.length ∧ (∀ u ∈ v.cells, u.oneCell' = true) ∧ ∀ (i : Nat) u c, v.cells[i]? = some u → x.cells[i]? = some c → R Im w M u c := by
 have one : ∀ {v : Value} {x : AV}, R Im w M v x → v.cells = #[v] → x.cells = [x] → v.oneCell' = true → v.cells.size = x.cells.length ∧ (∀ u ∈ v.cells, u.oneCell' = true) ∧ ∀ (i : Nat) u c, v.cells[i]? = some u → x.cells[i]? = some c → R Im w M u c := by
  intro v x h h1 h2 h3
  rw [h1, h2]
  refine ⟨rfl, fun u hu => by simp at hu; subst hu; exact h3, fun i u c hu hc => ?_⟩
  cases i with
  | zero => simp at hu hc; subst hu; subst hc; exact h
  | succ i => simp at hc
 cases x with
 | agg cs =>
  obtain ⟨vs, rfl, h1, h2, h3⟩ := R_agg h
  exact ⟨h1, h2, h3⟩
 | tup cs => simp [AV.solid] at hs
 | junk => simp [AV.solid] at hs
 | int k n => have := R_int h; subst this; exact one h rfl rfl rfl
 | bool b => have := R_bool h; subst this; exact one h rfl rfl rfl
 | str s => have := R_str h; subst this; exact one h rfl rfl rfl
 | nils => have := R_nils h; subst this; exact one h rfl rfl rfl
 | sl f es => obtain ⟨o, c, ad, sz, cs, rfl, _⟩ := R_sl h; exact one h rfl rfl rfl
 | bsl id => obtain ⟨o, n, c, rfl, _⟩ := R_bsl h; exact one h rfl rfl rfl
 | nilp => cases h; exact one .nilp rfl rfl rfl
 | ptr id off => obtain ⟨b, rfl, _⟩ := R_ptr h; exact one h rfl rfl rfl
 | eptr id i sz f => obtain ⟨g, n, c, rfl, _⟩ := R_eptr h; exact one h rfl rfl rfl
 | cptr cs => obtain ⟨ad, f, rfl, _⟩ := R_cptr h; exact one h rfl rfl rfl
 | nilf => cases h; exact one .nilf rfl rfl rfl
 | fn f cs => obtain ⟨vs, rfl, _⟩ := R_fn h; exact one h rfl rfl rfl
theorem ownB_set_ne {h : List HO} {M M' : Nat → Option Value} {id i : Nat} {o : HO} (hi : i ≠ id) (hm : M' i = M i) : ownB (h.set id o) M' i = ownB h M i := by
 unfold ownB
 rw [List.getElem?_set_ne (fun e => hi e.symm), hm]
theorem FRx.kill (h : FRx cx Im M st a w) (id : Nat) : FRx cx Im M (hset st id .dead) a w := by
 have hown : ∀ i b, ownB (st.heap.set id .dead) M i = some b → ownB st.heap M i = some b := by
  intro i b hb
  by_cases hi : i = id
  ·subst hi
   exfalso
   unfold ownB at hb
   by_cases hl : i < st.heap.length
   ·rw [List.getElem?_set_self hl] at hb; simp at hb
   ·rw [List.getElem?_eq_none (by simp; omega)] at hb; simp at hb
  ·rwa [ownB_set_ne hi rfl] at hb
 refine ⟨h.kp, h.im0, h.im1, h.imlt, h.tl, h.tm, fun i o ho => ?_, fun i hi => h.out i (by simpa [hset] using hi), fun i j b hij hi hj => h.own i j b hij (hown i b hi) (hown j b hj), fun i b hb => h.sep i b (hown i b hb), h.mm, h.df⟩
 simp only [hset] at ho
 by_cases hi : i = id
 ·subst hi
  have hl : i < st.heap.length := by have := (List.getElem?_eq_some_iff.1 ho).1; simpa using this
  rw [List.getElem?_set_self hl] at ho
  cases ho
  trivial
 ·rw [List.getElem?_set_ne (fun e => hi e.symm)] at ho
  exact h.ob i o ho
theorem FRx.new (h : FRx cx Im M st a w) {id : Nat} (hid : st.heap[id]? = some .un) (hk : st.k ≤ id) {w' : World} (hkp : Keeps cx.S cx.w0 w') (hs : w.heap.size ≤ w'.heap.size) (hI : ∀ b, Im b → w'.heap[b]? = w.heap[b]?)
  (hO : ∀ i b, ownB st.heap M i = some b → w'.heap[b]? = w.heap[b]?) (v : Value) (o : HO) (ho : RO Im w' (fun j => if j = id then some v else M j) id o)
  (hob : ∀ b, ownB (st.heap.set id o) (fun j => if j = id then some v else M j) id = some b → ¬ Im b ∧ (cx.S b ∨ cx.w0.heap.size ≤ b) ∧ b < w'.heap.size ∧ ∀ i, ownB st.heap M i ≠ some b) :
  FRx cx Im (fun j => if j = id then some v else M j) (hset st id o) a w' := by
 have h2 := h.step hkp hs hI hO
 have hlt : id < st.heap.length := (List.getElem?_eq_some_iff.1 hid).1
 have hmid : M id = none := h.ob id _ hid
 have hM : ∀ i u, M i = some u → (if i = id then some v else M i) = some u := by
  intro i u hu
  by_cases hi : i = id
  ·subst hi; rw [hmid] at hu; cases hu
  ·rw [if_neg hi]; exact hu
 have hne : ∀ i, i ≠ id → ownB (st.heap.set id o) (fun j => if j = id then some v else M j) i = ownB st.heap M i := fun i hi => ownB_set_ne hi (if_neg hi)
 refine ⟨h2.kp, h2.im0, h2.im1, h2.imlt, h2.tl, fun i x hx => let ⟨u, hu, hr⟩ := h2.tm i x hx; ⟨u, hu, hr.mono (fun _ h => h) (fun _ _ => rfl) hM⟩, fun i p hp => ?_, fun i hi => ?_, fun i j b hij hi hj => ?_, fun i b hb => ?_, fun i hi => ?_, h2.df⟩
 ·simp only [hset] at hp
  by_cases hi : i = id
  ·subst hi
   rw [List.getElem?_set_self hlt] at hp
   cases hp
   exact ho
  ·rw [List.getElem?_set_ne (fun e => hi e.symm)] at hp
   exact (h2.ob i p hp).mono (fun _ h => h) (fun _ _ => rfl) hM (if_neg hi) ⟨fun _ _ _ _ => rfl, fun _ _ _ _ _ _ _ _ => rfl, fun _ _ _ _ _ => rfl⟩
 ·simp only [hset, List.length_set] at hi
  have : i ≠ id := by omega
  simp only [if_neg this]
  exact h2.out i hi
 ·simp only [hset] at hi hj
  by_cases h1 : i = id
  ·subst h1
   rw [hne j (fun e => hij e.symm)] at hj
   exact (hob b hi).2.2.2 j hj
  ·by_cases h3 : j = id
   ·subst h3
    rw [hne i h1] at hi
    exact (hob b hj).2.2.2 i hi
   ·rw [hne i h1] at hi
    rw [hne j h3] at hj
    exact h.own i j b hij hi hj
 ·simp only [hset] at hb
  by_cases hi : i = id
  ·subst hi
   obtain ⟨h1, h3, h4, _⟩ := hob b hb
   exact ⟨h1, h3, h4⟩
  ·rw [hne i hi] at hb
   exact h2.sep i b hb
 ·have : i ≠ id := by have : i < st.k := hi; omega
  simp only [if_neg this]
  exact h2.mm i hi
theorem FRx.alloc (h : FRx cx Im M st a w) {id : Nat} (hid : st.heap[id]? = some .un) (hk : st.k ≤ id) (b : Obj) (v : Value) (o : HO) (ho : RO Im (w.alloc b) (fun j => if j = id then some v else M j) id o)
  (hob : ∀ b, ownB (st.heap.set id o) (fun j => if j = id then some v else M j) id = some b → b = w.heap.size) :
  FRx cx Im (fun j => if j = id then some v else M j) (hset st id o) a (w.alloc b) := by
 have hsz : (w.alloc b).heap.size = w.heap.size + 1 := by unfold World.alloc; simp
 have hold : ∀ i, i < w.heap.size → (w.alloc b).heap[i]? = w.heap[i]? := fun i hi => Below.heap_alloc w b i hi
 refine h.new hid hk ?_ (by omega) (fun i hi => hold i (h.imlt i hi)) (fun i j hj => hold j (h.sep i j hj).2.2) v o ho (fun c hc => ?_)
 ·exact h.kp.trans (T := fun _ => False) ⟨rfl, rfl, rfl, by omega, fun k hk _ => hold k hk⟩ (fun _ h => h.elim)
 ·have := hob c hc
  subst this
  exact ⟨fun hi => by have := h.imlt _ hi; omega, .inr h.kp.size, by omega, fun i hi => by have := (h.sep i _ hi).2.2; omega⟩
theorem heap_alloc_new' (w : World) (b : Obj) : (w.alloc b).heap[w.heap.size]? = some b := Go.heap_alloc_new w b
theorem new_box (h : FRx cx Im M st a w) {x : AV} {v : Value} (hr : R Im w M v x) (hs : x.solid = true) {t : Nat} (hid : st.heap[st.k + t]? = some .un) (ty : TypeId) (hk : K (Go.Proofs.YtodfkdnkgedgeaaT.put (hset st (st.k + t) (.box x.cells)) (some t) (.ptr (st.k + t) 0))) :
  Kx cx K (a.put (some t) (.pointer (some ⟨w.heap.size, 0, none⟩))) (w.alloc (.cells v.cells ty)) := by
 obtain ⟨h1, h2, h3⟩ := R_cells hr hs
 have hmid : M (st.k + t) = none := h.ob _ _ hid
 have hM : ∀ i u, M i = some u → (if i = st.k + t then some (Value.pointer (some ⟨w.heap.size, 0, none⟩)) else M i) = some u := by
  intro i u hu
  by_cases hi : i = st.k + t
  ·subst hi; rw [hmid] at hu; cases hu
  ·rw [if_neg hi]; exact hu
 have hold : ∀ b, Im b → (w.alloc (.cells v.cells ty)).heap[b]? = w.heap[b]? := fun b hb => Below.heap_alloc w _ b (h.imlt b hb)
 have hn := h.alloc hid (Nat.le_add_right _ _) (.cells v.cells ty) (.pointer (some ⟨w.heap.size, 0, none⟩)) (.box x.cells)
  ⟨w.heap.size, v.cells, ty, by simp, heap_alloc_new' w _, h1, h2, fun i u c hu hc => (h3 i u c hu hc).mono (fun _ h => h) hold hM⟩
  (fun b hb => by
   unfold ownB at hb
   rw [List.getElem?_set_self (List.getElem?_eq_some_iff.1 hid).1] at hb
   simpa using hb.symm)
 exact Kx.mk (hn.put (.ptr _ _ w.heap.size (by simp)) (some t)) hk
theorem op_move (h : FRx cx Im M st a w) {o : Oper} {x : Operand} (ho : o.op = .move x ∨ o.op = .assign x) (hk : K (Go.Proofs.YtodfkdnkgedgeaaT.put st o.dst (ev st x))) : o.wp P a w (Kx cx K) Q := by
 refine wp_val (v := a.eval x) (w' := w) ?_ (Kx.mk (h.put (ev_sound h x) _) hk)
 rcases ho with ho | ho <;> simp [execOp, ho]
theorem op_pick (h : FRx cx Im M st a w) {o : Oper} {c x y : Operand} (ho : o.op = .pick c x y) {t : Bool} (hc : ev st c = .bool t) (hk : K (Go.Proofs.YtodfkdnkgedgeaaT.put st o.dst (if t = true then ev st x else ev st y))) : o.wp P a w (Kx cx K) Q := by
 have he := R_bool (hc ▸ ev_sound h c)
 refine wp_val (v := if t = true then a.eval x else a.eval y) (w' := w) ?_ (Kx.mk (h.put ?_ _) hk)
 ·simp [execOp, ho, he, asBool]
 ·cases t
  ·exact ev_sound h y
  ·exact ev_sound h x
theorem zeroOf_some {t : TypeId} {z : AV} (h : zeroOf P t = some z) : ∃ i v, P.info? t = some i ∧ i.zero = some v ∧ z = ofVal v := by
 unfold zeroOf at h
 obtain ⟨v, hv, rfl⟩ := Option.map_eq_some_iff.1 h
 obtain ⟨i, hi, hz⟩ := Option.bind_eq_some_iff.1 hv
 exact ⟨i, v, hi, hz, rfl⟩
theorem op_alloc (h : FRx cx Im M st a w) {o : Oper} {e : TypeId} (ho : o.op = .alloc e) {z : AV} (hz : zeroOf P e = some z) (hs : z.solid = true) {t : Nat} (hd : o.dst = some t) (hid : st.heap[st.k + t]? = some .un)
  (hk : K (Go.Proofs.YtodfkdnkgedgeaaT.put (hset st (st.k + t) (.box z.cells)) (some t) (.ptr (st.k + t) 0))) : o.wp P a w (Kx cx K) Q := by
 obtain ⟨i, v, hi, hv, rfl⟩ := zeroOf_some hz
 refine wp_val (v := .pointer (some ⟨w.heap.size, 0, none⟩)) (w' := w.alloc (.cells v.cells e)) ?_ ?_
 ·simp [execOp, ho, Instr.alloc, zeroValue, typeInfo, hi, hv, newVar, newRow]
  try rfl
 ·rw [hd]; exact new_box h (R_ofVal v) hs hid e hk
theorem op_box (h : FRx cx Im M st a w) {o : Oper} {e : TypeId} {x : Operand} (ho : o.op = .box e x) (hs : (ev st x).solid = true) {t : Nat} (hd : o.dst = some t) (hid : st.heap[st.k + t]? = some .un)
  (hk : K (Go.Proofs.YtodfkdnkgedgeaaT.put (hset st (st.k + t) (.box (ev st x).cells)) (some t) (.ptr (st.k + t) 0))) : o.wp P a w (Kx cx K) Q := by
 refine wp_val (v := .pointer (some ⟨w.heap.size, 0, none⟩)) (w' := w.alloc (.cells (a.eval x).cells e)) ?_ ?_
 ·simp [execOp, ho, Instr.box, newVar, newRow]
  try rfl
 ·rw [hd]; exact new_box h (ev_sound h x) hs hid e hk
theorem op_extract (h : FRx cx Im M st a w) {o : Oper} {x : Operand} {i : Nat} (ho : o.op = .extract x i) {cs : List AV} (hx : ev st x = .tup cs) {c : AV} (hc : cs[i]? = some c) (hk : K (Go.Proofs.YtodfkdnkgedgeaaT.put st o.dst c)) : o.wp P a w (Kx cx K) Q := by
 obtain ⟨vs, he, h1, h2⟩ := R_tup (hx ▸ ev_sound h x)
 have hi : i < vs.size := by have := (List.getElem?_eq_some_iff.1 hc).1; omega
 have hv : vs[i]? = some vs[i] := Array.getElem?_eq_getElem hi
 refine wp_val (v := vs[i]) (w' := w) ?_ (Kx.mk (h.put (h2 i _ c hv hc) _) hk)
 simp [execOp, ho, he, Instr.extract, hv]
theorem op_makeFunc (h : FRx cx Im M st a w) {o : Oper} {f : FuncId} {first caps : Array Operand} (ho : o.op = .makeFunc (.func f) first caps) (hf : first = #[]) (hk : K (Go.Proofs.YtodfkdnkgedgeaaT.put st o.dst (.fn f (caps.toList.map (ev st))))) : o.wp P a w (Kx cx K) Q := by
 subst hf
 obtain ⟨h1, h2⟩ := evs_sound h caps
 refine wp_val (v := .func (.func f) #[] (caps.map a.eval)) (w' := w) ?_ (Kx.mk (h.put (.fn f _ _ h1 h2) _) hk)
 simp [execOp, ho, Instr.makeFunc]
theorem op_nilCheck (h : FRx cx Im M st a w) {o : Oper} {x : Operand} (ho : o.op = .nilCheck x) {y : AV} (hx : ev st x = y) (hy : (∃ i f, y = .ptr i f) ∨ (∃ i j s f, y = .eptr i j s f) ∨ (∃ cs, y = .cptr cs) ∨ (∃ f cs, y = .fn f cs)) (hk : K (Go.Proofs.YtodfkdnkgedgeaaT.put st o.dst y)) : o.wp P a w (Kx cx K) Q := by
 subst hx
 have hr := ev_sound h x
 refine wp_val (v := a.eval x) (w' := w) ?_ (Kx.mk (h.put hr _) hk)
 rcases hy with ⟨i, f, hy⟩ | ⟨i, j, s, f, hy⟩ | ⟨cs, hy⟩ | ⟨f, cs, hy⟩ <;> rw [hy] at hr
 ·obtain ⟨b, he, _⟩ := R_ptr hr
  simp [execOp, ho, he]
 ·obtain ⟨g, n, c, he, _⟩ := R_eptr hr
  simp [execOp, ho, he]
 ·obtain ⟨ad, f, he, _⟩ := R_cptr hr
  simp [execOp, ho, he]
 ·obtain ⟨vs, he, _⟩ := R_fn hr
  simp [execOp, ho, he]
end Go.Proofs.YtodfkdnkgedgeaaT
