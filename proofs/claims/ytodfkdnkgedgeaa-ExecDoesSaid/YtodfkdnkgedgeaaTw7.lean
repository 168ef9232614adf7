/- Walks over the program's functions, on values without memory, and what they come to. No condition. -/
import Derived.Test.YtodfkdnkgedgeaaTw6
set_option linter.unusedVariables false
set_option linter.unusedSimpArgs false
namespace Go.Proofs.YtodfkdnkgedgeaaT
open Go Go.RowKit
variable {cx : Cx} {Im : Nat → Prop} {M : Nat → Option Value} {st : St} {a : Act} {w : World} {P : Program} {K : St → Prop} {Q : Exit → Act → World → Prop}
theorem fold_set : ∀ (cs : List Value) (k off : Nat) (cells : Array Value), off + k + cs.length ≤ cells.size →
  ((cs.zipIdx k).foldl (fun (acc : Array Value) (x : Value × Nat) => acc.setIfInBounds (off + x.2) x.1) cells).toList = splice cells.toList (off + k) cs
 | [], k, off, cells, _ => by simp [splice]
 | c :: cs, k, off, cells, h => by
  simp only [List.length_cons] at h
  simp only [List.zipIdx_cons, List.foldl_cons]
  rw [fold_set cs (k + 1) off _ (by simp; omega)]
  apply List.ext_getElem?
  intro i
  rw [splice_get _ _ _ (by simp; omega), splice_get _ _ _ (by simp; omega), Array.toList_setIfInBounds, List.getElem?_set]
  simp only [List.length_cons]
  by_cases h1 : off + (k + 1) ≤ i ∧ i < off + (k + 1) + cs.length
  ·rw [if_pos h1, if_pos (by omega), show i - (off + k) = (i - (off + (k + 1))) + 1 from by omega, List.getElem?_cons_succ]
  ·rw [if_neg h1]
   by_cases h2 : off + k = i
   ·subst h2
    rw [if_pos rfl, if_pos (by simp; omega), if_pos (by omega), show off + k - (off + k) = 0 from by omega, List.getElem?_cons_zero]
   ·rw [if_neg h2, if_neg (by omega)]
theorem fold_arr (cs : Array Value) (off : Nat) (cells : Array Value) (h : off + cs.size ≤ cells.size) : (cs.zipIdx.foldl (fun (acc : Array Value) (x : Value × Nat) => acc.setIfInBounds (off + x.2) x.1) cells) = (splice cells.toList off cs.toList).toArray := by
 apply Array.ext'
 rw [← Array.foldl_toList, Array.toList_zipIdx, fold_set _ 0 off cells (by simpa using h)]
 simp
theorem fill_sound {t : TypeId} {places : Array (Nat × Nat)} (hpl : ∀ i off ag n, fieldOf P t i = some (off, ag, n) → places[i]? = some (off, n)) : ∀ (vp : List (Nat × Value)) (ap : List (Nat × AV)) (vs : Array Value) (cs : List AV) {N : List AV → Prop},
  vp.length = ap.length → (∀ (k : Nat) p q, vp[k]? = some p → ap[k]? = some q → p.1 = q.1 ∧ R Im w M p.2 q.2) → vs.size = cs.length → (∀ v ∈ vs, v.oneCell' = true) → (∀ (i : Nat) v c, vs[i]? = some v → cs[i]? = some c → R Im w M v c) → fillA P t cs ap N →
  ∃ vs' cs', Instr.fill (places[·]?) vs vp = some vs' ∧ vs'.size = cs'.length ∧ (∀ v ∈ vs', v.oneCell' = true) ∧ (∀ (i : Nat) v c, vs'[i]? = some v → cs'[i]? = some c → R Im w M v c) ∧ N cs'
 | [], [], vs, cs, N, _, _, h1, h2, h3, hf => ⟨vs, cs, rfl, h1, h2, h3, hf⟩
 | [], _ :: _, _, _, _, h, _, _, _, _, _ => by simp at h
 | _ :: _, [], _, _, _, h, _, _, _, _, _ => by simp at h
 | (i, v) :: vp, (j, x) :: ap, vs, cs, N, hl, hr, h1, h2, h3, hf => by
  obtain ⟨hij, hR⟩ := hr 0 _ _ rfl rfl
  simp only at hij hR
  subst hij
  unfold fillA at hf
  cases hfo : fieldOf P t i with
  | none => rw [hfo] at hf; exact hf.elim
  | some r =>
   obtain ⟨off, ag, n⟩ := r
   rw [hfo] at hf
   obtain ⟨hs, hn, ho, hf⟩ := hf
   obtain ⟨k1, k2, k3⟩ := R_cells hR hs
   have hlen : (splice vs.toList off v.cells.toList).length = vs.toList.length := splice_length _ _ _ (by simp; omega)
   have ih := fill_sound hpl vp ap (splice vs.toList off v.cells.toList).toArray (splice cs off x.cells) (by simpa using hl) (fun k p q hp hq => hr (k + 1) p q (by simpa using hp) (by simpa using hq)) (by rw [List.size_toArray, hlen, splice_length _ _ _ (by omega)]; simpa using h1)
    (fun u hu => by
     simp only [List.mem_toArray] at hu
     rcases splice_mem hu with hu | hu
     ·exact h2 u (by simpa using hu)
     ·exact k2 u (by simpa using hu))
    (fun i u c hu hc => by
     rw [List.getElem?_toArray] at hu
     exact splice_rel (T := R Im w M) (by simpa using h1) (by simpa using k1) (by omega) (fun i v c hv hc => h3 i v c (by simpa using hv) hc) (fun i v c hv hc => k3 i v c (by simpa using hv) hc) i u c hu hc) hf
   obtain ⟨vs', cs', e1, e2⟩ := ih
   refine ⟨vs', cs', ?_, e2⟩
   unfold Instr.fill
   rw [hpl i off ag n hfo]
   simp only
   rw [if_neg (by simp; omega)]
   have := fold_arr v.cells off vs (by omega)
   rw [← e1, ← this]
theorem mapM_ex {α β : Type} (f : α → Option β) : ∀ (l : List α), (∀ x ∈ l, (f x).isSome = true) → ∃ ys, l.mapM f = some ys ∧ ∀ (i : Nat), ys[i]? = (l[i]?).bind f
 | [], _ => ⟨[], rfl, fun i => by simp⟩
 | x :: l, h => by
  obtain ⟨y, hy⟩ := Option.isSome_iff_exists.1 (h x (by simp))
  obtain ⟨ys, h1, h2⟩ := mapM_ex f l (fun z hz => h z (by simp [hz]))
  refine ⟨y :: ys, by rw [List.mapM_cons, hy, h1]; rfl, fun i => ?_⟩
  cases i with
  | zero => simp [hy]
  | succ i => simpa using h2 i
theorem op_build (h : FRx cx Im M st a w) {o : Oper} {t : TypeId} {parts : Array (Nat × Operand)} (ho : o.op = .build t parts) {z : List AV} (hz : zeroOf P t = some (.agg z)) (hok : fieldsOk P t = true)
  (hf : fillA P t z (parts.toList.map fun p => (p.1, ev st p.2)) fun cs => K (Go.Proofs.YtodfkdnkgedgeaaT.put st o.dst (.agg cs))) : o.wp P a w (Kx cx K) Q := by
 obtain ⟨i, v, hi, hv, hzv⟩ := zeroOf_some hz
 have hzr := R_ofVal (Im := Im) (w := w) (M := M) v
 rw [← hzv] at hzr
 obtain ⟨vs, rfl, h1, h2, h3⟩ := R_agg hzr
 unfold fieldsOk at hok
 cases hu : P.underlying t with
 | none => rw [hu] at hok; cases hok
 | some d =>
  rw [hu] at hok
  cases d with
  | struct fs =>
   simp only at hok
   obtain ⟨ys, hy1, hy2⟩ := mapM_ex (fun f : Field => (P.info? f.type).map fun i => (f.offset, i.size)) fs.toList (fun f hf => by
    have := Array.all_eq_true_iff_forall_mem.1 hok f (by simpa using hf)
    simpa using this)
   obtain ⟨vs', cs', e1, e2, e3, e4, e5⟩ := fill_sound (P := P) (t := t) (places := ys.toArray) (Im := Im) (w := w) (M := M) (fun i off ag n hfo => by
    unfold fieldOf at hfo
    rw [hu] at hfo
    simp only at hfo
    rw [List.getElem?_toArray, hy2 i, Array.getElem?_toList]
    cases hfi : fs[i]? with
    | none => rw [hfi] at hfo; cases hfo
    | some f =>
     rw [hfi] at hfo
     simp only [Option.bind_some] at hfo ⊢
     split at hfo
     ·simp only [Option.some.injEq, Prod.mk.injEq] at hfo
      obtain ⟨rfl, _, rfl⟩ := hfo
      have := Array.all_eq_true_iff_forall_mem.1 hok f (Array.mem_of_getElem? hfi)
      obtain ⟨q, hq⟩ := Option.isSome_iff_exists.1 this
      simp [Program.cellsOf, hq]
     ·cases hfo) (parts.toList.map fun p => (p.1, a.eval p.2)) (parts.toList.map fun p => (p.1, ev st p.2)) vs z (by simp) (fun k p q hp hq => by
    rw [List.getElem?_map] at hp hq
    cases hk : parts.toList[k]? with
    | none => rw [hk] at hp; cases hp
    | some r =>
     rw [hk] at hp hq
     cases hp; cases hq
     exact ⟨rfl, ev_sound h r.2⟩) h1 h2 h3 hf
   refine wp_val (v := .agg vs') (w' := w) ?_ (Kx.mk (h.put (.agg _ _ e2 e3 e4) _) e5)
   have hb := run_build (P := P) w t (parts.map fun p => (p.1, a.eval p.2)) vs' (by
    unfold Program.built
    rw [hi, hu]
    simp only [hv, hy1, Value.cells]
    simpa using e1)
   simp [execOp, ho, hb]
  | _ => cases hok
theorem fillR_sound {size : Nat} : ∀ (vp : List (Nat × Value)) (ap : List (Nat × AV)) (vs : Array Value) (cs : List AV) {N : List AV → Prop},
  vp.length = ap.length → (∀ (k : Nat) p q, vp[k]? = some p → ap[k]? = some q → p.1 = q.1 ∧ R Im w M p.2 q.2) → vs.size = cs.length → (∀ v ∈ vs, v.oneCell' = true) → (∀ (i : Nat) v c, vs[i]? = some v → cs[i]? = some c → R Im w M v c) → fillR size cs ap N →
  ∃ vs' cs', Instr.fill (fun i => some (i * size, size)) vs vp = some vs' ∧ vs'.size = cs'.length ∧ (∀ v ∈ vs', v.oneCell' = true) ∧ (∀ (i : Nat) v c, vs'[i]? = some v → cs'[i]? = some c → R Im w M v c) ∧ N cs'
 | [], [], vs, cs, N, _, _, h1, h2, h3, hf => ⟨vs, cs, rfl, h1, h2, h3, hf⟩
 | [], _ :: _, _, _, _, h, _, _, _, _, _ => by simp at h
 | _ :: _, [], _, _, _, h, _, _, _, _, _ => by simp at h
 | (i, v) :: vp, (j, x) :: ap, vs, cs, N, hl, hr, h1, h2, h3, hf => by
  obtain ⟨hij, hR⟩ := hr 0 _ _ rfl rfl
  simp only at hij hR
  subst hij
  unfold fillR at hf
  obtain ⟨hs, hn, ho, hf⟩ := hf
  obtain ⟨k1, k2, k3⟩ := R_cells hR hs
  have hlen : (splice vs.toList (i * size) v.cells.toList).length = vs.toList.length := splice_length _ _ _ (by simp; omega)
  have ih := fillR_sound vp ap (splice vs.toList (i * size) v.cells.toList).toArray (splice cs (i * size) x.cells) (by simpa using hl) (fun k p q hp hq => hr (k + 1) p q (by simpa using hp) (by simpa using hq)) (by rw [List.size_toArray, hlen, splice_length _ _ _ (by omega)]; simpa using h1)
   (fun u hu => by
    simp only [List.mem_toArray] at hu
    rcases splice_mem hu with hu | hu
    ·exact h2 u (by simpa using hu)
    ·exact k2 u (by simpa using hu))
   (fun i' u c hu hc => by
    rw [List.getElem?_toArray] at hu
    exact splice_rel (T := R Im w M) (by simpa using h1) (by simpa using k1) (by omega) (fun i v c hv hc => h3 i v c (by simpa using hv) hc) (fun i v c hv hc => k3 i v c (by simpa using hv) hc) i' u c hu hc) hf
  obtain ⟨vs', cs', e1, e2⟩ := ih
  refine ⟨vs', cs', ?_, e2⟩
  unfold Instr.fill
  simp only
  rw [if_neg (by simp; omega)]
  have := fold_arr v.cells (i * size) vs (by omega)
  rw [← e1, ← this]
theorem op_buildArr (h : FRx cx Im M st a w) {o : Oper} {t e : TypeId} {n : Nat} {parts : Array (Nat × Operand)} (ho : o.op = .build t parts) {z : List AV} (hz : zeroOf P t = some (.agg z)) (hu : P.underlying t = some (.array n e)) (he : (P.info? e).isSome = true)
  (hf : fillR (P.cellsOf e) z (parts.toList.map fun p => (p.1, ev st p.2)) fun cs => K (Go.Proofs.YtodfkdnkgedgeaaT.put st o.dst (.agg cs))) : o.wp P a w (Kx cx K) Q := by
 obtain ⟨i, v, hi, hv, hzv⟩ := zeroOf_some hz
 have hzr := R_ofVal (Im := Im) (w := w) (M := M) v
 rw [← hzv] at hzr
 obtain ⟨vs, rfl, h1, h2, h3⟩ := R_agg hzr
 obtain ⟨ie, hie⟩ := Option.isSome_iff_exists.1 he
 obtain ⟨vs', cs', e1, e2, e3, e4, e5⟩ := fillR_sound (Im := Im) (w := w) (M := M) (parts.toList.map fun p => (p.1, a.eval p.2)) (parts.toList.map fun p => (p.1, ev st p.2)) vs z (by simp) (fun k p q hp hq => by
  rw [List.getElem?_map] at hp hq
  cases hk : parts.toList[k]? with
  | none => rw [hk] at hp; cases hp
  | some r =>
   rw [hk] at hp hq
   cases hp; cases hq
   exact ⟨rfl, ev_sound h r.2⟩) h1 h2 h3 hf
 refine wp_val (v := .agg vs') (w' := w) ?_ (Kx.mk (h.put (.agg _ _ e2 e3 e4) _) e5)
 have hb := run_build (P := P) w t (parts.map fun p => (p.1, a.eval p.2)) vs' (by
  unfold Program.built
  rw [hi, hu]
  have hsz : ie.size = P.cellsOf e := by simp [Program.cellsOf, hie]
  simp only [hv, hie, Value.cells, hsz]
  simpa using e1)
 simp [execOp, ho, hb]
theorem fill_dense {size : Nat} : ∀ (vp : List (Nat × Value)) (i : Nat) (cells : Array Value), vp.map (·.1) = List.range' i vp.length → (∀ p ∈ vp, p.2.cells.size = size) → cells.size = (i + vp.length) * size →
  Instr.fill (fun i => some (i * size, size)) cells vp = some (cells.toList.take (i * size) ++ (vp.map fun p => p.2.cells.toList).flatten).toArray
 | [], i, cells, _, _, hc => by
  simp only [List.length_nil, Nat.add_zero] at hc
  simp only [Instr.fill, List.map_nil, List.flatten_nil, List.append_nil, ← hc, Option.some.injEq]
  apply Array.ext'
  simp [List.take_of_length_le]
 | (j, v) :: vp, i, cells, hm, hs, hc => by
  simp only [List.map_cons, List.length_cons, List.range'_succ, List.cons.injEq] at hm
  obtain ⟨rfl, hm⟩ := hm
  have hv := hs _ (List.mem_cons_self)
  simp only at hv
  simp only [List.length_cons] at hc
  have hmul : (j + (vp.length + 1)) * size = j * size + (vp.length * size + size) := by rw [Nat.add_mul, Nat.add_mul, Nat.one_mul]
  unfold Instr.fill
  simp only
  rw [if_neg (by simp; omega), show (v.cells.zipIdx.foldl (fun cs x => match x with | (c, k) => cs.setIfInBounds (j * size + k) c) cells) = (splice cells.toList (j * size) v.cells.toList).toArray from fold_arr v.cells (j * size) cells (by omega),
   fill_dense vp (j + 1) _ hm (fun p hp => hs p (List.mem_cons_of_mem _ hp)) (by rw [List.size_toArray, splice_length _ _ _ (by simp; omega), Array.length_toList, hc]; congr 1; omega)]
  congr 2
  simp only [List.map_cons, List.flatten_cons]
  rw [← List.append_assoc]
  congr 1
  unfold splice
  have h1 : (cells.toList.take (j * size)).length = j * size := by rw [List.length_take, Array.length_toList]; omega
  rw [← List.append_assoc, List.take_append_of_le_length (by rw [List.length_append, h1]; simp [hv, Nat.add_mul]), List.take_of_length_le (by rw [List.length_append, h1]; simp [hv, Nat.add_mul])]
theorem flatten_get {α : Type} {sz : Nat} : ∀ (l : List (List α)), (∀ x ∈ l, x.length = sz) → l.flatten.length = l.length * sz ∧ ∀ (i : Nat) x (j : Nat), l[i]? = some x → j < sz → l.flatten[i * sz + j]? = x[j]?
 | [], _ => ⟨by simp, fun i x j h => by simp at h⟩
 | y :: l, h => by
  obtain ⟨h1, h2⟩ := flatten_get l (fun x hx => h x (by simp [hx]))
  have hy := h y (by simp)
  refine ⟨by simp [h1, hy, Nat.add_mul]; omega, fun i x j hi hj => ?_⟩
  rw [List.flatten_cons]
  cases i with
  | zero =>
   simp at hi
   subst hi
   rw [Nat.zero_mul, Nat.zero_add, List.getElem?_append_left (by omega)]
  | succ i =>
   rw [Nat.succ_mul, List.getElem?_append_right (by omega), hy, show i * sz + sz + j - sz = i * sz + j from by omega]
   exact h2 i x j (by simpa using hi) hj
theorem frzL_get (h : List HO) : ∀ (cs : List AV), (frzL h cs).length = cs.length ∧ ∀ (i : Nat) d, (frzL h cs)[i]? = some d → ∃ c, cs[i]? = some c ∧ d = frz h c ∧ ∀ id ∈ names c, id ∈ namesL cs := by
 intro cs
 induction cs with
 | nil => exact ⟨rfl, fun i d h => by simp [frzL] at h⟩
 | cons c cs ih =>
  refine ⟨by simp [frzL, ih.1], fun i d hd => ?_⟩
  cases i with
  | zero =>
   simp only [frzL, List.getElem?_cons_zero, Option.some.injEq] at hd
   exact ⟨c, rfl, hd.symm, fun id hid => by simp only [namesL]; exact List.mem_append_left _ hid⟩
  | succ i =>
   simp only [frzL, List.getElem?_cons_succ] at hd
   obtain ⟨c', h1, h2, h3⟩ := ih.2 i d hd
   exact ⟨c', by simpa using h1, h2, fun id hid => by simp only [namesL]; exact List.mem_append_right _ (h3 id hid)⟩
theorem namesL_mem {id : Nat} {c : AV} : ∀ {l : List AV}, c ∈ l → id ∈ names c → id ∈ namesL l
 | x :: l, hc, hid => by
  simp only [namesL]
  rcases List.mem_cons.1 hc with rfl | hc
  ·exact List.mem_append_left _ hid
  ·exact List.mem_append_right _ (namesL_mem hc hid)
theorem names_cells {id : Nat} {x c : AV} (hc : c ∈ x.cells) (hid : id ∈ names c) : id ∈ names x := by
 cases x with
 | agg cs => exact namesL_mem (l := cs) hc hid
 | _ => simp only [AV.cells, List.mem_singleton] at hc; subst hc; exact hid
theorem freeze (h : FRx cx Im M st a w) (l : List AV) : ∃ Im', (∀ b, Im b → Im' b) ∧ (∀ b, Im' b → Im b ∨ ∃ i, ownB st.heap M i = some b) ∧ FRx cx Im' M { st with heap := frzHL st.heap l } a w ∧
  ∀ v x, R Im w M v x → (∀ id ∈ names x, id ∈ namesL l) → R Im' w (fun _ => none) v (frz st.heap x) := by
 obtain ⟨Im', h1, h2, h3, h4⟩ := fixes_sound (namesL l) h
 exact ⟨Im', h1, h2, h3, fun v x hr hn => frz_sound h h1 hr (fun id hid e sz es b he hb => h4 id (hn id hid) e sz es b he hb)⟩
theorem fix_un {h : List HO} {id j : Nat} (hj : h[j]? = some .un) : (fix h id)[j]? = some .un := by
 rw [fix_get]
 split
 ·rename_i he; subst he; rw [hj]
 ·exact hj
theorem fixes_un (ids : List Nat) : ∀ {h : List HO} {j : Nat}, h[j]? = some .un → (ids.foldl fix h)[j]? = some .un := by
 induction ids with
 | nil => intro h j hj; exact hj
 | cons i ids ih => intro h j hj; rw [List.foldl_cons]; exact ih (fix_un hj)
theorem new_arr (h : FRx cx Im M st a w) {e sz cap : Nat} {es : List (List AV)} {cur : Array Value} {t : Nat} (hid : st.heap[st.k + t]? = some .un) (hc : Chunks Im w sz (cur.toList.take (es.length * sz)) es) (hl : es.length ≤ cap) (hm : cap ≤ maxLen) (hs : cur.size = cap * sz)
  (hk : K (Go.Proofs.YtodfkdnkgedgeaaT.put (hset st (st.k + t) (.arr e sz es)) (some t) (.bsl (st.k + t)))) : Kx cx K (a.put (some t) (.slice (some ⟨w.heap.size, 0, none⟩) es.length cap)) (w.alloc (.cells cur e)) := by
 have hold : ∀ b, Im b → (w.alloc (.cells cur e)).heap[b]? = w.heap[b]? := fun b hb => Below.heap_alloc w _ b (h.imlt b hb)
 have hes : es.length * sz ≤ cap * sz := Nat.mul_le_mul_right _ hl
 have hn := h.alloc hid (Nat.le_add_right _ _) (.cells cur e) (.slice (some ⟨w.heap.size, 0, none⟩) es.length cap) (.arr e sz es)
  ⟨_, cur.toList.take (es.length * sz), by simp, ⟨by have hcl : cur.toList.length = cur.size := Array.length_toList; rw [List.length_take]; omega, .inr ⟨w.heap.size, cap, cur, rfl, Nat.zero_le _, heap_alloc_new' w _, hl, hm, hs, rfl⟩⟩, hc.mono (fun _ h => h) hold⟩
  (fun b hb => by
   unfold ownB at hb
   rw [List.getElem?_set_self (List.getElem?_eq_some_iff.1 hid).1] at hb
   simpa [Value.ownBlock] using hb.symm)
 exact Kx.mk (hn.put (.bsl _ _ _ _ (by simp)) (some t)) hk
theorem elemOk_info {e : TypeId} (h : elemOk P e) : ∃ i z, P.info? e = some i ∧ i.zero = some z ∧ i.size = P.cellsOf e ∧ z.cells.size = P.cellsOf e ∧ i.bytes = P.bytesOf e := by
 obtain ⟨_, z, hz, hs, hc⟩ := h
 obtain ⟨i, v, hi, hv, rfl⟩ := zeroOf_some hz
 have hr := (R_cells (R_ofVal (Im := fun _ => False) (w := default) (M := fun _ => none) v) hs).1
 exact ⟨i, v, hi, hv, by simp [Program.cellsOf, hi], hr.trans hc, by simp [Program.bytesOf, hi]⟩
theorem dense_range : ∀ (l : List Nat) (i : Nat), dense i l = true → l = List.range' i l.length
 | [], _, _ => rfl
 | j :: l, i, h => by
  simp only [dense, Bool.and_eq_true, beq_iff_eq] at h
  obtain ⟨rfl, h⟩ := h
  rw [List.length_cons, List.range'_succ, ← dense_range l (i + 1) h]
theorem fills_mem {n : Nat} : ∀ {l : List AV}, fills n l → ∀ x ∈ l, x.solid = true ∧ (x.cells.all AV.leaf) = true ∧ x.cells.length = n
 | y :: l, h, x, hx => by
  rcases List.mem_cons.1 hx with rfl | hx
  ·exact h.1
  ·exact fills_mem h.2 x hx
theorem op_buildSlice (h : FRx cx Im M st a w) {o : Oper} {t : TypeId} {n : Nat} {parts : Array (Nat × Operand)} (ho : o.op = .buildSlice t n parts) {e : TypeId} (he : elemOf P t = some e) (hdense : parts.toList.map (·.1) = List.range n) (hsmall : n * P.cellsOf e ≤ 16777216)
  (hp : ∀ p ∈ parts.toList, (ev st p.2).solid = true ∧ ((ev st p.2).cells.all AV.leaf) = true ∧ (ev st p.2).cells.length = P.cellsOf e) (hok : elemOk P e) {d : Nat} (hd : o.dst = some d) (hid : (frzHL st.heap (parts.toList.map fun p => ev st p.2))[st.k + d]? = some .un)
  (hk : K (Go.Proofs.YtodfkdnkgedgeaaT.put (hset { st with heap := frzHL st.heap (parts.toList.map fun p => ev st p.2) } (st.k + d) (.arr e (P.cellsOf e) (parts.toList.map fun p => frzL st.heap (ev st p.2).cells))) (some d) (.bsl (st.k + d)))) : o.wp P a w (Kx cx K) Q := by
 obtain ⟨i, z, hi, hz, hsz, hzs, _⟩ := elemOk_info hok
 have h0 := hok.1
 have hlen : parts.toList.length = n := by have := congrArg List.length hdense; simpa using this
 obtain ⟨Im', hI, hI2, hF, hfr⟩ := freeze h (parts.toList.map fun p => ev st p.2)
 let vp : List (Nat × Value) := parts.toList.map fun p => (p.1, a.eval p.2)
 have hvl : vp.length = n := by simp [vp]; simpa using hlen
 have hvs : ∀ p ∈ vp, p.2.cells.size = P.cellsOf e := by
  intro p hp'
  simp only [vp, List.mem_map] at hp'
  obtain ⟨q, hq, rfl⟩ := hp'
  obtain ⟨h1, _, h3⟩ := hp q hq
  exact (R_cells (ev_sound h q.2) h1).1.trans h3
 have hfd := fill_dense vp 0 ((Array.range (n * P.cellsOf e)).map fun k => z.cells[k % z.cells.size]!) (by
  have : vp.map (·.1) = parts.toList.map (·.1) := by simp [vp]
  rw [this, hdense, hvl, List.range_eq_range']) hvs (by simp [hvl])
 rw [Nat.zero_mul, List.take_zero, List.nil_append] at hfd
 obtain ⟨hfl, hfg⟩ := flatten_get (sz := P.cellsOf e) (vp.map fun p => p.2.cells.toList) (fun x hx => by
  obtain ⟨p, hp', rfl⟩ := List.mem_map.1 hx
  simpa using hvs p hp')
 rw [List.length_map, hvl] at hfl
 have hes : (parts.toList.map fun p => frzL st.heap (ev st p.2).cells).length = n := by simpa using hlen
 refine wp_val (v := .slice (some ⟨w.heap.size, 0, none⟩) (parts.toList.map fun p => frzL st.heap (ev st p.2).cells).length n) (w' := w.alloc (.cells (vp.map fun p => p.2.cells.toList).flatten.toArray e)) ?_ ?_
 ·have hrun : (Instr.buildSlice t n (parts.map fun (i, x) => (i, a.eval x))).run P w = .ok (.slice (some ⟨w.heap.size, 0, none⟩) n n) (w.alloc (.cells (vp.map fun p => p.2.cells.toList).flatten.toArray e)) := by
   unfold Instr.buildSlice
   have hns : ¬ (2 ^ 24 < n * P.cellsOf e) := by omega
   by_cases hn0 : n * P.cellsOf e = 0
   ·have hn : n = 0 := by rcases Nat.mul_eq_zero.1 hn0 with h | h <;> omega
    subst hn
    have hnil : parts = #[] := by
     apply Array.ext'
     exact List.eq_nil_of_length_eq_zero hlen
    subst hnil
    simp [run_underlying (elemOf_some he), run_sizeOf h0, Instr.fill, newRow, vp]
    congr 2
    apply Array.ext'
    simp
   ·have hpar : (parts.map fun (i, x) => (i, a.eval x)).toList = vp := by simp [vp]
    simp only [Sem.run_bind, run_underlying (elemOf_some he), Result.andThen_ok, run_sizeOf h0, hns, hn0, gt_iff_lt, if_false, Sem.run_pure, zeroValue, typeInfo, run_program, hi, hz, hpar, hfd]
    simp [newRow]
    try rfl
  rw [hes]
  simp [execOp, ho, hrun]
 ·rw [hd]
  have hun := hid
  refine new_arr (K := K) (st := { st with heap := frzHL st.heap (parts.toList.map fun p => ev st p.2) }) hF hun ⟨?_, ?_, ?_⟩ (by rw [hes]; exact Nat.le_refl _) (by unfold maxLen; have := Nat.le_mul_of_pos_right n h0; omega) (by simpa using hfl) hk
  ·intro j x hx
   rw [List.getElem?_map] at hx
   obtain ⟨p, hpp, rfl⟩ := Option.map_eq_some_iff.1 hx
   rw [(frzL_get st.heap _).1]
   exact (hp p (List.mem_of_getElem? hpp)).2.2
  ·intro u hu
   have hu := List.mem_of_mem_take hu
   simp only [List.mem_flatten, List.mem_map] at hu
   obtain ⟨l, ⟨p, hp', rfl⟩, hul⟩ := hu
   simp only [vp, List.mem_map] at hp'
   obtain ⟨q, hq, rfl⟩ := hp'
   exact (R_cells (ev_sound h q.2) (hp q hq).1).2.1 u (by simpa using hul)
  ·intro k x j y hx hy
   rw [List.getElem?_map] at hx
   obtain ⟨p, hpp, rfl⟩ := Option.map_eq_some_iff.1 hx
   obtain ⟨hs1, hs2, hs3⟩ := hp p (List.mem_of_getElem? hpp)
   obtain ⟨c, hc, rfl, hn⟩ := (frzL_get st.heap _).2 j y hy
   obtain ⟨k1, k2, k3⟩ := R_cells (ev_sound h p.2) hs1
   have hj : j < P.cellsOf e := by have := (List.getElem?_eq_some_iff.1 hc).1; omega
   have hjv : j < (a.eval p.2).cells.size := by omega
   have hk2 : k < n := by have := (List.getElem?_eq_some_iff.1 hpp).1; omega
   refine ⟨(a.eval p.2).cells[j], ?_, ?_⟩
   ·rw [List.getElem?_take, hes, if_pos (by have : (k + 1) * P.cellsOf e ≤ n * P.cellsOf e := Nat.mul_le_mul_right _ hk2; rw [Nat.add_mul, Nat.one_mul] at this; omega)]
    rw [hfg k (a.eval p.2).cells.toList j (by simp [vp, hpp]) hj, Array.getElem?_toList, Array.getElem?_eq_getElem hjv]
   ·exact hfr _ c (k3 j _ c (Array.getElem?_eq_getElem hjv) hc) (fun id hid => namesL_mem (List.mem_map.2 ⟨p, List.mem_of_getElem? hpp, rfl⟩) (names_cells (List.mem_of_getElem? hc) hid))
end Go.Proofs.YtodfkdnkgedgeaaT
