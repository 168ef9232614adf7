/- Walks over the program's functions, on values without memory, and what they come to. No condition. -/
import Derived.Test.YtodfkdnkgedgeaaTw5
set_option linter.unusedVariables false
set_option linter.unusedSimpArgs false
namespace Go.Proofs.YtodfkdnkgedgeaaT
open Go Go.RowKit
variable {cx : Cx} {Im : Nat → Prop} {M : Nat → Option Value} {st : St} {a : Act} {w : World} {P : Program} {K : St → Prop} {Q : Exit → Act → World → Prop}
theorem FRx.write (h : FRx cx Im M st a w) {id b : Nat} (hb : ownB st.heap M id = some b) {w' : World} (h1 : w'.os = w.os) (h2 : w'.tape = w.tape) (h3 : w'.output = w.output) (hs : w'.heap.size = w.heap.size)
  (hw : ∀ k, k ≠ b → w'.heap[k]? = w.heap[k]?) {o : HO} (ho : RO Im w' M id o) (hob : ∀ c, ownB (st.heap.set id o) M id = some c → c = b) : FRx cx Im M (hset st id o) a w' := by
 obtain ⟨hni, hS, hlt⟩ := h.sep id b hb
 have hid : id < st.heap.length := by
  unfold ownB at hb
  rcases Nat.lt_or_ge id st.heap.length with hl | hl
  ·exact hl
  ·rw [List.getElem?_eq_none hl] at hb; simp at hb
 have hI : ∀ c, Im c → w'.heap[c]? = w.heap[c]? := fun c hc => hw c (fun e => hni (e ▸ hc))
 have hne : ∀ i, i ≠ id → ownB (st.heap.set id o) M i = ownB st.heap M i := fun i hi => ownB_set_ne hi rfl
 have hown : ∀ i c, ownB (st.heap.set id o) M i = some c → ownB st.heap M i = some c := by
  intro i c hc
  by_cases hi : i = id
  ·subst hi; rw [hob c hc]; exact hb
  ·rwa [hne i hi] at hc
 refine ⟨?_, h.im0, h.im1, fun c hc => by rw [hs]; exact h.imlt c hc, h.tl, fun i x hx => let ⟨v, hv, hr⟩ := h.tm i x hx; ⟨v, hv, hr.mono (fun _ h => h) hI (fun _ _ h => h)⟩, fun i p hp => ?_, fun i hi => h.out i (by simpa [hset] using hi),
  fun i j c hij hi hj => h.own i j c hij (hown i c hi) (hown j c hj), fun i c hc => by rw [hs]; exact h.sep i c (hown i c hc), h.mm, h.df⟩
 ·exact h.kp.trans (T := fun k => k = b) ⟨h1, h2, h3, by omega, fun k _ hk => hw k hk⟩ (fun i hi => by subst hi; exact hS)
 ·simp only [hset] at hp
  by_cases hi : i = id
  ·subst hi
   rw [List.getElem?_set_self hid] at hp
   cases hp
   exact ho
  ·rw [List.getElem?_set_ne (fun e => hi e.symm)] at hp
   have hd : ∀ c, ownB st.heap M i = some c → c ≠ b := fun c hc he => h.own i id b hi (he ▸ hc) hb
   exact (h.ob i p hp).mono (fun _ h => h) hI (fun _ _ h => h) rfl ⟨fun c cs e hm => hw c (hd c (ownB_box (e ▸ hp) hm)), fun e sz es v g he hm hg => hw g (hd g ((ownB_arr (he ▸ hp) hm).trans hg)), fun s p c e hm => hw c (hd c (ownB_iter (e ▸ hp) hm))⟩
theorem run_storeVar {t : TypeId} {b off : Nat} {v : Value} {vs : Array Value} {ty : TypeId} (hg : w.heap[b]? = some (.cells vs ty (0, 0))) (hn : v.cells.size = P.cellsOf t) (h0 : 0 < P.cellsOf t) (hl : off + v.cells.size ≤ vs.size) (h1 : ∀ u ∈ v.cells, u.oneCell' = true) :
  (storeVar t ⟨b, off, none⟩ v).run P w = .ok () (w.setRow b (vs.toList.take off ++ v.cells.toList ++ vs.toList.drop (off + v.cells.size)).toArray) := by
 have hst := run_storeCells_at (P := P) b off ty v.cells.toList 0 vs w hg (by simpa using hl) (fun u hu => h1 u (by simpa using hu))
 unfold storeVar
 simp only [Sem.run_bind, run_sizeOf h0, Result.andThen_ok, hn, ne_eq, not_true_eq_false, if_false]
 rw [hst]
 simp [hn]
theorem setRow_size (w : World) (b : Nat) (cs : Array Value) : (w.setRow b cs).heap.size = w.heap.size := by simp [World.setRow]
theorem splice_get {α : Type} (l cs : List α) (off : Nat) (h : off + cs.length ≤ l.length) (i : Nat) : (splice l off cs)[i]? = if off ≤ i ∧ i < off + cs.length then cs[i - off]? else l[i]? := by
 unfold splice
 have hl : (l.take off).length = off := by rw [List.length_take]; omega
 by_cases h1 : i < off
 ·rw [List.getElem?_append_left (by omega), List.getElem?_take, if_pos h1, if_neg (by omega)]
 ·rw [List.getElem?_append_right (by omega), hl]
  by_cases h2 : i < off + cs.length
  ·rw [List.getElem?_append_left (by omega), if_pos ⟨by omega, h2⟩]
  ·rw [List.getElem?_append_right (by omega), List.getElem?_drop, if_neg (by omega)]
   congr 1
   omega
theorem splice_length {α : Type} (l cs : List α) (off : Nat) (h : off + cs.length ≤ l.length) : (splice l off cs).length = l.length := by
 unfold splice
 rw [List.length_append, List.length_append, List.length_take, List.length_drop]
 omega
theorem splice_rel {T : Value → AV → Prop} {vs us : List Value} {cs xs : List AV} {off : Nat} (hl : vs.length = cs.length) (hx : us.length = xs.length) (hf : off + xs.length ≤ cs.length) (h1 : ∀ (i : Nat) v c, vs[i]? = some v → cs[i]? = some c → T v c) (h2 : ∀ (i : Nat) v c, us[i]? = some v → xs[i]? = some c → T v c) :
  ∀ (i : Nat) v c, (splice vs off us)[i]? = some v → (splice cs off xs)[i]? = some c → T v c := by
 intro i v c hv hc
 rw [splice_get _ _ _ (by omega)] at hv hc
 rw [hx] at hv
 split at hv
 ·rename_i hi
  rw [if_pos hi] at hc
  exact h2 _ _ _ hv hc
 ·rename_i hi
  rw [if_neg hi] at hc
  exact h1 _ _ _ hv hc
theorem splice_mem {α : Type} {l cs : List α} {off : Nat} {x : α} (h : x ∈ splice l off cs) : x ∈ l ∨ x ∈ cs := by
 unfold splice at h
 rcases List.mem_append.1 h with h | h
 ·exact .inl (List.mem_of_mem_take h)
 ·rcases List.mem_append.1 h with h | h
  ·exact .inr h
  ·exact .inl (List.mem_of_mem_drop h)
theorem pures_at : ∀ {cs : List AV} (i : Nat) c, AV.pures cs = true → cs[i]? = some c → c.pure = true
 | [], i, c, _, h => by simp at h
 | x :: l, i, c, h, hc => by
  simp only [AV.pures, Bool.and_eq_true] at h
  cases i with
  | zero => simp at hc; subst hc; exact h.1
  | succ i => exact pures_at i c h.2 (by simpa using hc)
theorem R_pure : ∀ {v : Value} {x : AV}, R Im w M v x → x.pure = true → R Im w (fun _ => none) v x := by
 intro v x h
 induction h with
 | int k n => intro _; exact .int k n
 | bool b => intro _; exact .bool b
 | str s => intro _; exact .str s
 | nils => intro _; exact .nils
 | sl a c full es ad sz cs hc hf hm ha hl hr ho hv ih => intro _; exact .sl a c full es ad sz cs hc hf hm ha hl hr ho hv
 | bsl id a n c h => intro hh; simp [AV.pure] at hh
 | nilp => intro _; exact .nilp
 | ptr id off b h => intro hh; simp [AV.pure] at hh
 | eptr id idx sz foff g n c h => intro hh; simp [AV.pure] at hh
 | cptr ad cells cs hi hr ho hv ih => intro _; exact .cptr ad cells cs hi hr ho hv
 | nilf => intro _; exact .nilf
 | fn f vs cs hs h ih => intro hh; exact .fn f vs cs hs (fun i v c hv hc => ih i v c hv hc (pures_at i c (by simpa [AV.pure] using hh) hc))
 | agg vs cs hs ho h ih => intro hh; exact .agg vs cs hs ho (fun i v c hv hc => ih i v c hv hc (pures_at i c (by simpa [AV.pure] using hh) hc))
 | tup vs cs hs h ih => intro hh; exact .tup vs cs hs (fun i v c hv hc => ih i v c hv hc (pures_at i c (by simpa [AV.pure] using hh) hc))
 | junk v => intro _; exact .junk v
theorem vStore_sound (h : FRx cx Im M st a w) {t : TypeId} {x y : AV} {u v : Value} (hu : R Im w M u x) (hv : R Im w M v y) {N : St → Prop} (hl : vStore P t st x y N) : ∃ st' w', (Instr.storeAt t u v).run P w = .ok () w' ∧ FRx cx Im M st' a w' ∧ N st' := by
 unfold vStore at hl
 split at hl
 ·rename_i id off
  obtain ⟨b, rfl, hm⟩ := R_ptr hu
  split at hl
  ·rename_i cs hcs
   obtain ⟨hs, hleaf, hn, h0, hoff, hN⟩ := hl
   obtain ⟨b', vs, ty, h1, h2, h3, h4, h5⟩ := h.ob id _ hcs
   rw [hm] at h1
   simp only [Option.some.injEq, Value.pointer.injEq, Addr.mk.injEq, and_true] at h1
   subst h1
   obtain ⟨k1, k2, k3⟩ := R_cells hv hs
   have hlt : b < w.heap.size := (Array.getElem?_eq_some_iff.1 h2).1
   refine ⟨_, _, by simp [Instr.storeAt, Instr.sureAddr]; exact run_storeVar h2 (k1.trans hn) h0 (by omega) k2, ?_, hN⟩
   have hsp : (vs.toList.take off ++ v.cells.toList ++ vs.toList.drop (off + v.cells.size)) = splice vs.toList off v.cells.toList := by unfold splice; simp
   rw [hsp]
   refine h.write (w' := w.setRow b (splice vs.toList off v.cells.toList).toArray) (o := .box (splice cs off y.cells)) (ownB_box hcs hm) rfl rfl rfl (setRow_size _ _ _) (fun k hk => setRow_other w b k _ hk) ⟨b, _, ty, hm, setRow_heap w b vs _ ty _ h2, ?_, ?_, ?_⟩ (fun c hc => ?_)
   ·rw [List.size_toArray, splice_length _ _ _ (by simp; omega), splice_length _ _ _ (by omega)]; simpa using h3
   ·intro u hu
    simp only [List.mem_toArray] at hu
    rcases splice_mem hu with hu | hu
    ·exact h4 u (by simpa using hu)
    ·exact k2 u (by simpa using hu)
   ·intro i u c hu hc
    rw [List.getElem?_toArray] at hu
    have hni := (h.sep id b (ownB_box hcs hm)).1
    have hR : R Im w M u c := splice_rel (T := R Im w M) (by simpa using h3) (by simpa using k1) (by omega) (fun i v c hv hc => h5 i v c (by simpa using hv) hc) (fun i v c hv hc => k3 i v c (by simpa using hv) hc) i u c hu hc
    exact hR.mono (fun _ h => h) (fun c hc => setRow_other w b c _ (fun e => hni (e ▸ hc))) (fun _ _ h => h)
   ·have := ownB_box (M := M) (List.getElem?_set_self (a := HO.box (splice cs off y.cells)) (List.getElem?_eq_some_iff.1 hcs).1) hm
    rw [this] at hc
    cases hc; rfl
  ·exact hl.elim
 ·rename_i id idx sz foff
  obtain ⟨g, n, c, rfl, hm⟩ := R_eptr hu
  split at hl
  ·rename_i e sz' es hcs
   obtain ⟨rfl, hlt, hs, hleaf, hpure, hn, h0, hoff, hN⟩ := hl
   obtain ⟨v', xs, h1, h2, h3⟩ := h.ob id _ hcs
   rw [hm] at h1
   cases h1
   have hn' : n = es.length := by
    rcases owns_block h2 with ⟨he, h0, _⟩ | ⟨g', c', he, _⟩ <;> cases he
    rfl
   subst hn'
   obtain ⟨k1, k2, k3⟩ := R_cells hv hs
   obtain ⟨hxl, h2'⟩ := h2
   rcases h2' with ⟨he, _⟩ | ⟨g', cap, cur, he, _, hg, hnc, hcm, hcs', htake⟩
   ·cases he
   simp only [Value.slice.injEq, Option.some.injEq, Addr.mk.injEq, and_true, true_and] at he
   obtain ⟨rfl, rfl⟩ := he
   have hel : es[idx]? = some (es.getD idx []) := by rw [List.getD_eq_getElem?_getD, List.getElem?_eq_getElem hlt]; rfl
   have hesz := h3.1 idx _ hel
   have hidx : (idx + 1) * sz' ≤ es.length * sz' := Nat.mul_le_mul_right _ hlt
   have hcapm : es.length * sz' ≤ c * sz' := Nat.mul_le_mul_right _ hnc
   rw [Nat.add_mul, Nat.one_mul] at hidx
   have hfit : idx * sz' + foff + v.cells.size ≤ cur.size := by omega
   refine ⟨_, _, by simp [Instr.storeAt, Instr.sureAddr]; exact run_storeVar hg (k1.trans hn) h0 hfit k2, ?_, hN⟩
   have hsp : (cur.toList.take (idx * sz' + foff) ++ v.cells.toList ++ cur.toList.drop (idx * sz' + foff + v.cells.size)) = splice cur.toList (idx * sz' + foff) v.cells.toList := by unfold splice; simp
   rw [hsp]
   have hob : ownB st.heap M id = some g := (ownB_arr hcs hm).trans rfl
   have hni := (h.sep id g hob).1
   have hI : ∀ c, Im c → (w.setRow g (splice cur.toList (idx * sz' + foff) v.cells.toList).toArray).heap[c]? = w.heap[c]? := fun c hc => setRow_other w g c _ (fun e => hni (e ▸ hc))
   refine h.write (w' := w.setRow g (splice cur.toList (idx * sz' + foff) v.cells.toList).toArray) (o := .arr e sz' (es.set idx (splice (es.getD idx []) foff y.cells))) hob rfl rfl rfl (setRow_size _ _ _) (fun k hk => setRow_other w g k _ hk) ⟨_, splice xs (idx * sz' + foff) v.cells.toList, hm, ⟨?_, .inr ⟨g, c, _, by rw [List.length_set], Nat.zero_le _, setRow_heap w g cur _ e _ hg, by rw [List.length_set]; exact hnc, hcm, ?_, ?_⟩⟩, ?_, ?_, ?_⟩ (fun c hc => ?_)
   ·rw [splice_length _ _ _ (by simp; omega), List.length_set]; exact hxl
   ·rw [List.size_toArray, splice_length _ _ _ (by simp; omega)]; simpa using hcs'
   ·rw [List.length_set]
    apply List.ext_getElem?
    intro i
    rw [List.getElem?_take, splice_get _ _ _ (by simp; omega)]
    rw [splice_get xs _ _ (by simp; omega), ← htake, List.getElem?_take]
    by_cases hi : i < es.length * sz'
    ·rw [if_pos hi, if_pos hi]
    ·rw [if_neg hi, if_neg hi, if_neg (by simp; omega)]
   ·intro i x hx
    rw [List.getElem?_set] at hx
    split at hx
    ·rename_i hi
     subst hi
     try rw [if_pos hlt] at hx
     cases hx
     rw [splice_length _ _ _ (by omega)]
     exact hesz
    ·exact h3.1 i x hx
   ·intro u hu
    rcases splice_mem hu with hu | hu
    ·exact h3.2.1 u hu
    ·exact k2 u (by simpa using hu)
   ·intro i x j q hx hq
    rw [List.getElem?_set] at hx
    have hlen : j < sz' := by
     have hj := (List.getElem?_eq_some_iff.1 hq).1
     split at hx
     ·rename_i hi
      try rw [if_pos (by omega)] at hx
      cases hx
      rw [splice_length _ _ _ (by omega)] at hj
      omega
     ·have := h3.1 i x hx
      omega
    rw [splice_get _ _ _ (by simp; omega)]
    split at hx
    ·rename_i hi
     subst hi
     try rw [if_pos hlt] at hx
     cases hx
     rw [splice_get _ _ _ (by omega)] at hq
     by_cases hj : foff ≤ j ∧ j < foff + y.cells.length
     ·rw [if_pos hj] at hq
      rw [if_pos (by simp; omega)]
      have h6 : j - foff < v.cells.size := by omega
      refine ⟨v.cells[j - foff], ?_, ?_⟩
      ·rw [show idx * sz' + j - (idx * sz' + foff) = j - foff from by omega, Array.getElem?_toList, Array.getElem?_eq_getElem h6]
      ·exact (R_pure (k3 _ _ _ (Array.getElem?_eq_getElem h6) hq) (pures_at _ _ hpure hq)).mono (fun _ h => h) hI (fun _ _ h => h)
     ·rw [if_neg hj] at hq
      rw [if_neg (by simp; omega)]
      obtain ⟨u, hu, hr⟩ := h3.2.2 idx _ j q hel hq
      exact ⟨u, hu, hr.mono (fun _ h => h) hI (fun _ _ h => h)⟩
    ·rename_i hi
     have hil : i < es.length := (List.getElem?_eq_some_iff.1 hx).1
     have hfar : ¬ (idx * sz' + foff ≤ i * sz' + j ∧ i * sz' + j < idx * sz' + foff + v.cells.toList.length) := by
      have hvl : v.cells.toList.length = y.cells.length := by simpa using k1
      rcases Nat.lt_or_gt_of_ne hi with hlt2 | hgt
      ·have : (idx + 1) * sz' ≤ i * sz' := Nat.mul_le_mul_right _ hlt2
       rw [Nat.add_mul, Nat.one_mul] at this
       omega
      ·have : (i + 1) * sz' ≤ idx * sz' := Nat.mul_le_mul_right _ hgt
       rw [Nat.add_mul, Nat.one_mul] at this
       omega
     rw [if_neg hfar]
     obtain ⟨u, hu, hr⟩ := h3.2.2 i x j q hx hq
     exact ⟨u, hu, hr.mono (fun _ h => h) hI (fun _ _ h => h)⟩
   ·have := ownB_arr (M := M) (List.getElem?_set_self (a := HO.arr e sz' (es.set idx (splice (es.getD idx []) foff y.cells))) (List.getElem?_eq_some_iff.1 hcs).1) hm
    rw [this] at hc
    simp [Value.ownBlock] at hc
    exact hc.symm
  ·exact hl.elim
 ·exact hl.elim
theorem op_store (h : FRx cx Im M st a w) {o : Oper} {t : TypeId} {x y : Operand} (ho : o.op = .store t x y) (hl : vStore P t st (ev st x) (ev st y) fun st' => K (Go.Proofs.YtodfkdnkgedgeaaT.put st' o.dst .junk)) : o.wp P a w (Kx cx K) Q := by
 obtain ⟨st', w', h1, h2, h3⟩ := vStore_sound h (ev_sound h x) (ev_sound h y) hl
 exact wp_skp (w' := w') (by simp [execOp, ho, h1]) (Kx.mk (h2.put (.junk _) _) h3)
end Go.Proofs.YtodfkdnkgedgeaaT
