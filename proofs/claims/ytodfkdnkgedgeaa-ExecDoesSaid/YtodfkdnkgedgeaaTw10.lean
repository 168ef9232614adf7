/- Walks over the program's functions, on values without memory, and what they come to. No condition. -/
import Derived.Test.YtodfkdnkgedgeaaTw9
import Derived.Maps.AppendAt
import Derived.Laws.IdiomStrings
set_option linter.unusedVariables false
set_option linter.unusedSimpArgs false
namespace Go.Proofs.YtodfkdnkgedgeaaT
open Go Go.RowKit
variable {cx : Cx} {Im : Nat → Prop} {M : Nat → Option Value} {st : St} {a : Act} {w : World} {P : Program} {K : St → Prop} {Q : Exit → Act → World → Prop}
theorem Chunks.append {sz : Nat} {xs ys : List Value} {es fs : List (List AV)} (h : Chunks Im w sz xs es) (k : Chunks Im w sz ys fs) (hl : xs.length = es.length * sz) : Chunks Im w sz (xs ++ ys) (es ++ fs) := by
 refine ⟨fun i x hx => ?_, fun u hu => ?_, fun i x j y hx hy => ?_⟩
 ·rcases Nat.lt_or_ge i es.length with hi | hi
  ·rw [List.getElem?_append_left hi] at hx; exact h.1 i x hx
  ·rw [List.getElem?_append_right hi] at hx; exact k.1 _ x hx
 ·rcases List.mem_append.1 hu with hu | hu
  ·exact h.2.1 u hu
  ·exact k.2.1 u hu
 ·rcases Nat.lt_or_ge i es.length with hi | hi
  ·rw [List.getElem?_append_left hi] at hx
   obtain ⟨u, hu, hr⟩ := h.2.2 i x j y hx hy
   exact ⟨u, by rw [List.getElem?_append_left (List.getElem?_eq_some_iff.1 hu).1]; exact hu, hr⟩
  ·rw [List.getElem?_append_right hi] at hx
   obtain ⟨u, hu, hr⟩ := k.2.2 _ x j y hx hy
   have h1 : es.length * sz ≤ i * sz := Nat.mul_le_mul_right _ hi
   refine ⟨u, ?_, hr⟩
   rw [List.getElem?_append_right (by omega), hl]
   rwa [show i * sz + j - es.length * sz = (i - es.length) * sz + j from by rw [Nat.sub_mul]; omega]
theorem Chunks.nil (sz : Nat) : Chunks Im w sz [] [] := ⟨fun i x h => by simp at h, fun u h => by simp at h, fun i x j y h => by simp at h⟩
theorem sl_list {v : Value} {full : Bool} {es : List (List AV)} (hr : R Im w M v (.sl full es)) {sz : Nat} (h0 : 0 < sz) (hs : ∀ y ∈ es, y.length = sz) : ∃ o c news, v = .slice o es.length c ∧ es.length ≤ c ∧ (full = true → c = es.length) ∧ news.length = es.length * sz ∧ (0 < es.length → ∃ ad, o = some ad ∧ ∀ (j : Nat) u, news[j]? = some u → w.cell? (ad.add j) = some u) ∧ Chunks Im w sz news es := by
 obtain ⟨o, c, ad, sz', cs, rfl, h1, h2, h3, h4, h5, h6, h7, h8⟩ := R_sl hr
 have hl : ∀ (i : Nat) x, es[i]? = some x → x.length = sz := fun i x hx => hs x (List.mem_of_getElem? hx)
 have hsz : ∀ (i : Nat) x, es[i]? = some x → sz' = sz := fun i x hx => (h5 i x hx).symm.trans (hl i x hx)
 refine ⟨o, c, (List.range (es.length * sz)).map fun k => cs (k / sz) (k % sz), rfl, h1, h2, by simp, fun hp => ?_, hl, fun u hu => ?_, fun i x j y hx hy => ?_⟩
 ·obtain ⟨rfl, hi⟩ := h4 hp
  refine ⟨ad, rfl, fun j u hu => ?_⟩
  rw [List.getElem?_map] at hu
  obtain ⟨k, hk, rfl⟩ := Option.map_eq_some_iff.1 hu
  have hj : j < es.length * sz := by have := (List.getElem?_eq_some_iff.1 hk).1; simpa using this
  rw [List.getElem?_range hj] at hk
  cases hk
  have hdiv : j / sz < es.length := (Nat.div_lt_iff_lt_mul h0).2 hj
  have hel := List.getElem?_eq_getElem hdiv
  have := hsz _ _ hel
  subst this
  have hmod : j % sz' < (es[j / sz']).length := by rw [hl _ _ hel]; exact Nat.mod_lt _ h0
  have := h6 _ _ _ _ hel (List.getElem?_eq_getElem hmod)
  rwa [Nat.mul_comm, Nat.div_add_mod] at this
 ·obtain ⟨k, hk, rfl⟩ := List.mem_map.1 hu
  have hk := List.mem_range.1 hk
  have hdiv : k / sz < es.length := (Nat.div_lt_iff_lt_mul h0).2 hk
  have hel := List.getElem?_eq_getElem hdiv
  have hmod : k % sz < (es[k / sz]).length := by rw [hl _ _ hel]; exact Nat.mod_lt _ h0
  exact h7 _ _ _ _ hel (List.getElem?_eq_getElem hmod)
 ·have hi := (List.getElem?_eq_some_iff.1 hx).1
  have hj : j < sz := by have := (List.getElem?_eq_some_iff.1 hy).1; rw [hl i x hx] at this; exact this
  have hlt : i * sz + j < es.length * sz := by have : (i + 1) * sz ≤ es.length * sz := Nat.mul_le_mul_right _ hi; rw [Nat.add_mul, Nat.one_mul] at this; omega
  refine ⟨cs i j, ?_, h8 i x j y hx hy⟩
  rw [List.getElem?_map, List.getElem?_range hlt, Option.map_some, Nat.mul_comm, Nat.mul_add_div h0, Nat.mul_add_mod, Nat.div_eq_of_lt hj, Nat.mod_eq_of_lt hj, Nat.add_zero]
theorem elems_list (h : FRx cx Im M st a w) {v : Value} {x : AV} (hr : R Im w M v x) {es : List (List AV)} (he : elems st.heap x = some es) {sz : Nat} (h0 : 0 < sz) (hs : ∀ y ∈ es, y.length = sz) : ∃ o c news, v = .slice o es.length c ∧ news.length = es.length * sz ∧ (0 < es.length → ∃ ad, o = some ad ∧ ∀ (j : Nat) u, news[j]? = some u → w.cell? (ad.add j) = some u) ∧ Chunks Im w sz news es := by
 unfold elems at he
 split at he
 ·cases he
  have := R_nils hr
  exact ⟨none, 0, [], this, by simp, fun h => by simp at h, Chunks.nil _⟩
 ·cases he
  obtain ⟨o, c, news, h1, _, _, h2⟩ := sl_list hr h0 hs
  exact ⟨o, c, news, h1, h2⟩
 ·rename_i id
  obtain ⟨o, n, c, rfl, hm⟩ := R_bsl hr
  split at he
  ·rename_i e sz' es' hid
   cases he
   obtain ⟨v', xs, h1, h2, h3⟩ := h.ob id _ hid
   rw [hm] at h1
   cases h1
   rcases owns_block h2 with ⟨he, h00, _⟩ | ⟨g, c', he, hg, _⟩
   ·cases he
    have hnil := List.eq_nil_of_length_eq_zero h00
    subst hnil
    exact ⟨none, 0, [], rfl, by simp, fun h => by simp at h, Chunks.nil _⟩
   ·simp only [Value.slice.injEq] at he
    obtain ⟨rfl, rfl, rfl⟩ := he
    by_cases hp : 0 < es.length
    ·have hel := List.getElem?_eq_getElem hp
     have : sz' = sz := (h3.1 _ _ hel).symm.trans (hs _ (List.mem_of_getElem? hel))
     subst this
     exact ⟨_, _, xs, rfl, h2.1, fun _ => ⟨_, rfl, h2.cells hg⟩, h3⟩
    ·have hnil := List.eq_nil_of_length_eq_zero (show es.length = 0 by omega)
     subst hnil
     exact ⟨_, _, [], rfl, by simp, fun h => by simp at h, Chunks.nil _⟩
  ·rename_i es' hid
   cases he
   obtain ⟨v', h1, h2⟩ := h.ob id _ hid
   rw [hm] at h1
   cases h1
   obtain ⟨o', c', news, h3, _, _, h4⟩ := sl_list h2 h0 hs
   exact ⟨o', c', news, h3, h4⟩
  ·cases he
 ·cases he
theorem run_append_none {t e : TypeId} (he : elemOf P t = some e) (h0 : 0 < P.cellsOf e) {ty : TypeId} {b o : Option Addr} {n cap c : Nat} (hn : n ≤ cap) : (Builtin.append_ #[t, t] ty #[.slice b n cap, .slice o 0 c]).run P w = .ok (.slice b n cap) w := by
 have hfc : (Builtin.firstCells (P.cellsOf e) 0 (.slice o 0 c)).run P w = .ok #[] w := by cases o <;> simp [Builtin.firstCells, loadCells, loadCellsFrom]
 have hu := elemOf_some he
 cases b <;> simp [Builtin.append_, run_underlying hu, run_sizeOf h0, Builtin.lenOf, hn, hfc, storeCells]
theorem app_own (h : FRx cx Im M st a w) {t e ty : TypeId} (he : elemOf P t = some e) (hok : elemOk P e) {d : Nat} (hid : st.heap[st.k + d]? = some .un) {v u : Value} {xs : List Value} {es fs : List (List AV)} (ho : w.ownsRow 0 e (P.cellsOf e) v es.length xs) (hc : Chunks Im w (P.cellsOf e) xs es)
  (hv : ∀ b, v.ownBlock = some b → ¬ Im b ∧ (cx.S b ∨ cx.w0.heap.size ≤ b) ∧ ∀ i, ownB st.heap M i ≠ some b) {o : Option Addr} {c : Nat} {news : List Value} (hu : u = .slice o fs.length c) (hl : news.length = fs.length * P.cellsOf e)
  (hnews : 0 < fs.length → ∃ ad, o = some ad ∧ ∀ (j : Nat) u, news[j]? = some u → w.cell? (ad.add j) = some u) (hcn : Chunks Im w (P.cellsOf e) news fs) (h1 : es.length + fs.length ≤ 140737488355328) (h2 : (es.length + fs.length) * P.bytesOf e ≤ 140737488355328)
  (hk : K (Go.Proofs.YtodfkdnkgedgeaaT.put (hset st (st.k + d) (.arr e (P.cellsOf e) (es ++ fs))) (some d) (.bsl (st.k + d)))) : ∃ v' w', (Builtin.append_ #[t, t] ty #[v, u]).run P w = .ok v' w' ∧ Kx cx K (a.put (some d) v') w' := by
 obtain ⟨i, z, hi, hz, hsz, hzs, hby⟩ := elemOk_info hok
 have h0 := hok.1
 subst hu
 have hex : ∃ v' w', (Builtin.append_ #[t, t] ty #[v, .slice o fs.length c]).run P w = .ok v' w' ∧ w'.ownsRow 0 e (P.cellsOf e) v' (es.length + fs.length) (xs ++ news) ∧ w.grownBy w' v.ownBlock ∧ (v'.ownBlock = v.ownBlock ∨ v'.ownBlock = some w.heap.size) := by
  by_cases hp : 0 < fs.length
  ·obtain ⟨ad, rfl, hcell⟩ := hnews hp
   obtain ⟨v', w', k1, k2, k3, _, k5⟩ := run_append_own_at (P := P) w 0 t ty e i z (P.cellsOf e) (P.bytesOf e) (elemOf_some he) hi hz hsz hby hzs h0 v es.length xs ho ad fs.length c news hl hcell hcn.2.1 (by unfold maxLen; omega) h2 (Nat.zero_le _)
   exact ⟨v', w', k1, k2, k3, k5⟩
  ·have hf : fs = [] := List.eq_nil_of_length_eq_zero (by omega)
   subst hf
   have hn : news = [] := List.eq_nil_of_length_eq_zero (by simpa using hl)
   subst hn
   refine ⟨v, w, ?_, by simpa using ho, ⟨rfl, rfl, rfl, Nat.le_refl _, fun _ _ _ => rfl⟩, .inl rfl⟩
   rcases owns_block ho with ⟨rfl, h00, _⟩ | ⟨g, cap, rfl, _, hcap, _⟩
   ·exact run_append_none he h0 (Nat.le_refl _)
   ·exact run_append_none he h0 hcap
 obtain ⟨v', w', hrun, hown, hgr, hblk⟩ := hex
 have hkeep : ∀ k, k < w.heap.size → v.ownBlock ≠ some k → w'.heap[k]? = w.heap[k]? := fun k hk hne => hgr.block k hk (fun e => hne e.symm)
 have hI : ∀ b, Im b → w'.heap[b]? = w.heap[b]? := fun b hb => hkeep b (h.imlt b hb) (fun e => (hv b e).1 hb)
 have hmid : M (st.k + d) = none := h.ob _ _ hid
 have hlt := (List.getElem?_eq_some_iff.1 hid).1
 refine ⟨v', w', hrun, ?_⟩
 have hn := h.new hid (Nat.le_add_right _ _) (w' := w')
  (h.kp.trans (T := fun b => v.ownBlock = some b) ⟨hgr.os, hgr.tape, hgr.output, hgr.size, fun k hk hne => hkeep k hk hne⟩ (fun b hb => (hv b hb).2.1)) hgr.size hI (fun j b hb => hkeep b (h.sep j b hb).2.2 (fun e => (hv b e).2.2 j hb)) v' (.arr e (P.cellsOf e) (es ++ fs))
  ⟨v', xs ++ news, by simp, by rw [List.length_append]; exact hown, (hc.append hcn ho.1).mono (fun _ h => h) hI⟩ (fun b hb => by
   unfold ownB at hb
   rw [List.getElem?_set_self hlt] at hb
   simp only [if_true] at hb
   have hbl : b < w'.heap.size := by
    rcases owns_block hown with ⟨_, _, h3⟩ | ⟨g, cap, _, h3, _, _, h4⟩
    ·rw [h3] at hb; cases hb
    ·rw [h3] at hb; cases hb; exact h4
   rcases hblk with h3 | h3
   ·rw [h3] at hb
    exact ⟨(hv b hb).1, (hv b hb).2.1, hbl, (hv b hb).2.2⟩
   ·rw [h3] at hb
    cases hb
    exact ⟨fun hi => by have := h.imlt _ hi; omega, .inr h.kp.size, hbl, fun i hi => by have := (h.sep i _ hi).2.2; omega⟩)
 rcases owns_block hown with ⟨rfl, h3, _⟩ | ⟨g, cap, rfl, _⟩
 ·exact Kx.mk (hn.put (.bsl _ _ _ _ (by simp)) (some d)) hk
 ·exact Kx.mk (hn.put (.bsl _ _ _ _ (by simp)) (some d)) hk
theorem app_full (h : FRx cx Im M st a w) {t e ty : TypeId} (he : elemOf P t = some e) (hok : elemOk P e) {d : Nat} (hid : st.heap[st.k + d]? = some .un) {v u : Value} {es fs : List (List AV)} (hr : R Im w M v (.sl true es)) (hes : ∀ y ∈ es, y.length = P.cellsOf e)
  {o : Option Addr} {c : Nat} {news : List Value} (hu : u = .slice o fs.length c) (hl : news.length = fs.length * P.cellsOf e) (hnews : 0 < fs.length → ∃ ad, o = some ad ∧ ∀ (j : Nat) u, news[j]? = some u → w.cell? (ad.add j) = some u) (hcn : Chunks Im w (P.cellsOf e) news fs) (hp : fs ≠ [])
  (h1 : es.length + fs.length ≤ 140737488355328) (h2 : (es.length + fs.length) * P.bytesOf e ≤ 140737488355328)
  (hk : K (Go.Proofs.YtodfkdnkgedgeaaT.put (hset st (st.k + d) (.arr e (P.cellsOf e) (es ++ fs))) (some d) (.bsl (st.k + d)))) : ∃ v' w', (Builtin.append_ #[t, t] ty #[v, u]).run P w = .ok v' w' ∧ Kx cx K (a.put (some d) v') w' := by
 obtain ⟨i, z, hi, hz, hsz, hzs, hby⟩ := elemOk_info hok
 have h0 := hok.1
 obtain ⟨ob, cb, olds, hv, hcb, hfull, hol, hocell, hoc⟩ := sl_list hr h0 hes
 have hcb' := hfull rfl
 subst hcb'
 subst hv; subst hu
 have hpos : 0 < fs.length := List.length_pos_iff.2 hp
 obtain ⟨ad, rfl, hcell⟩ := hnews hpos
 by_cases he0 : es = []
 ·subst he0
  have holn : olds = [] := List.eq_nil_of_length_eq_zero (by simpa using hol)
  subst holn
  cases ob with
  | none => exact app_own h he hok hid (w.ownsRow_nil 0 e _) (Chunks.nil _) (fun b hb => by cases hb) rfl hl hnews hcn h1 h2 hk
  | some b =>
   have hr2 := run_append_grow (P := P) w t ty e i z (elemOf_some he) hi hz b 0 0 [] (by simp) (fun j v h => by simp at h) ad fs.length c news (by rw [hsz]; exact hl) hcell (by omega) (by omega) (by rw [hby]; exact growslice_fits (by omega) (by simpa using h2))
   refine ⟨_, _, hr2, ?_⟩
   have := h.drew
   simp only [Nat.zero_add]
   refine new_arr (K := K) (h.drew) hid (cap := grownCap w fs.length 0 e) (es := [] ++ fs) (e := e) (sz := P.cellsOf e) ?_ (by simpa using grownCap_ge w fs.length 0 e) (grownCap_le_maxLen w _ _ e (by unfold maxLen; omega)) ?_ hk
   ·have hge := grownCap_ge w fs.length 0 e
    simp only [List.nil_append, Array.toList_append, List.append_assoc]
    have : (news ++ (Builtin.zeroCells z.cells (grownCap w fs.length 0 e - fs.length)).toList).take (fs.length * P.cellsOf e) = news := by rw [← hl]; exact List.take_left
    simpa [this] using hcn.mono (w' := { w with drawn := w.drawn + 1 }) (fun _ h => h) (fun _ _ => rfl)
   ·have hge := grownCap_ge w fs.length 0 e
    simp only [Array.size_append, List.size_toArray, List.length_nil, hl, size_zeroCells, hzs, Nat.zero_add, ← Nat.add_mul]
    congr 1
    omega
 ·have hpe : 0 < es.length := List.length_pos_iff.2 he0
  obtain ⟨b, rfl, hob⟩ := hocell hpe
  have hr2 := run_append_grow (P := P) w t ty e i z (elemOf_some he) hi hz b es.length es.length olds (by rw [hsz]; exact hol) hob ad fs.length c news (by rw [hsz]; exact hl) hcell (by omega) (by omega) (by rw [hby]; exact growslice_fits (by omega) h2)
  refine ⟨_, _, hr2, ?_⟩
  have hge := grownCap_ge w (es.length + fs.length) es.length e
  have hlen : (es ++ fs).length = es.length + fs.length := List.length_append
  rw [← hlen]
  refine new_arr (K := K) (h.drew) hid (cap := grownCap w (es ++ fs).length es.length e) (es := es ++ fs) (e := e) (sz := P.cellsOf e) ?_ (by rw [hlen]; exact hge) (grownCap_le_maxLen w _ _ e (by rw [hlen]; unfold maxLen; omega)) ?_ hk
  ·rw [hlen]
   have h3 : (olds ++ news).length = (es.length + fs.length) * P.cellsOf e := by rw [List.length_append, hol, hl, Nat.add_mul]
   have : ((olds.toArray ++ news.toArray ++ Builtin.zeroCells z.cells (grownCap w (es.length + fs.length) es.length e - (es.length + fs.length))).toList).take ((es.length + fs.length) * P.cellsOf e) = olds ++ news := by
    simp only [Array.toList_append]
    rw [← h3]
    exact List.take_left
   rw [this]
   exact (hoc.append hcn hol).mono (fun _ h => h) (fun _ _ => rfl)
  ·rw [hlen]
   simp only [Array.size_append, List.size_toArray, hol, hl, size_zeroCells, hzs, ← Nat.add_mul]
   congr 1
   omega
theorem zero_chunks {z : Value} {sz n : Nat} (hs : (ofVal z).solid = true) (hl : (ofVal z).cells.length = sz) (h0 : 0 < sz) {xs : List Value} (hxl : xs.length = n * sz) (hx : ∀ i, i < n * sz → xs[i]? = some (z.cells[i % sz]!)) : Chunks Im w sz xs (List.replicate n (ofVal z).cells) := by
 obtain ⟨k1, k2, k3⟩ := R_cells (R_ofVal (Im := Im) (w := w) (M := fun _ => none) z) hs
 have hzs : z.cells.size = sz := k1.trans hl
 have hmod : ∀ i, i % sz < z.cells.size := fun i => by rw [hzs]; exact Nat.mod_lt _ h0
 refine ⟨fun i x hi => ?_, fun u hu => ?_, fun i x j y hi hj => ?_⟩
 ·rw [List.getElem?_replicate] at hi
  split at hi
  ·cases hi; exact hl
  ·cases hi
 ·obtain ⟨i, hi, rfl⟩ := List.getElem_of_mem hu
  have := hx i (by omega)
  rw [List.getElem?_eq_getElem hi] at this
  rw [Option.some.inj this, getElem!_pos z.cells (i % sz) (hmod i)]
  exact k2 _ (Array.getElem_mem _)
 ·rw [List.getElem?_replicate] at hi
  split at hi
  ·rename_i hin
   cases hi
   have hj' : j < sz := by have := (List.getElem?_eq_some_iff.1 hj).1; omega
   have hlt : i * sz + j < n * sz := by
    have : (i + 1) * sz ≤ n * sz := Nat.mul_le_mul_right _ hin
    rw [Nat.succ_mul] at this; omega
   have hm : (i * sz + j) % sz = j := by rw [Nat.add_comm, Nat.add_mul_mod_self_right]; exact Nat.mod_eq_of_lt hj'
   refine ⟨_, hx _ hlt, ?_⟩
   rw [hm, getElem!_pos z.cells j (by omega)]
   exact k3 j _ y (Array.getElem?_eq_getElem (by omega)) hj
  ·cases hi
theorem op_makeSlice (h : FRx cx Im M st a w) {o : Oper} {t e : TypeId} {l c : Operand} (ho : o.op = .makeSlice t l c) (he : elemOf P t = some e) {k k' : IntKind} {n : Int} (hl : ev st l = .int k n) (hc : ev st c = .int k' n) (h0 : 0 ≤ n) (h1 : n ≤ 16777216) (h2 : n * P.bytesOf e ≤ 140737488355328) (hok : elemOk P e) {z : AV} (hz : zeroOf P e = some z)
  {d : Nat} (hd : o.dst = some d) (hun : st.heap[st.k + d]? = some .un) (hk : K (Go.Proofs.YtodfkdnkgedgeaaT.put (hset st (st.k + d) (.arr e (P.cellsOf e) (List.replicate n.toNat z.cells))) (some d) (.bsl (st.k + d)))) : o.wp P a w (Kx cx K) Q := by
 have e1 := R_int (hl ▸ ev_sound h l)
 have e2 := R_int (hc ▸ ev_sound h c)
 obtain ⟨i, v, hi, hv, hzv⟩ := zeroOf_some hz
 obtain ⟨i', v', hi', hv', hsz, hzs, hby⟩ := elemOk_info hok
 rw [hi] at hi'
 cases hi'
 rw [hv] at hv'
 cases hv'
 obtain ⟨hc0, z', hz', hsol, hlen⟩ := hok
 rw [hz] at hz'
 cases hz'
 subst hzv
 have hrun := run_make (P := P) w t e i v (elemOf_some he) hi hv k k' n n h0 (Int.le_refl _) (by rw [hby, Int.mul_comm]; omega) (by omega)
 rw [hsz] at hrun
 have hcur : (madeCells v.cells (n.toNat * P.cellsOf e)).toList.take (n.toNat * P.cellsOf e) = (madeCells v.cells (n.toNat * P.cellsOf e)).toList := List.take_of_length_le (by rw [Array.length_toList, size_madeCells]; exact Nat.le_refl _)
 have hch : Chunks Im w (P.cellsOf e) ((madeCells v.cells (n.toNat * P.cellsOf e)).toList.take ((List.replicate n.toNat (ofVal v).cells).length * P.cellsOf e)) (List.replicate n.toNat (ofVal v).cells) := by
  rw [List.length_replicate, hcur]
  refine zero_chunks hsol hlen hc0 (by rw [Array.length_toList, size_madeCells]) (fun j hj => ?_)
  simp [madeCells, hj, hzs]
 have hna := new_arr h (K := K) (t := d) (cap := n.toNat) hun hch (by rw [List.length_replicate]; exact Nat.le_refl _) (by unfold maxLen; omega) (size_madeCells _ _) hk
 rw [List.length_replicate] at hna
 refine wp_val (v := .slice (some ⟨w.heap.size, 0, none⟩) n.toNat n.toNat) (w' := w.alloc (.cells (madeCells v.cells (n.toNat * P.cellsOf e)) e)) ?_ (by rw [hd]; exact hna)
 simp [execOp, ho, e1, e2, hrun]
theorem run_append_zeros {t u e : TypeId} {i : TypeInfo} {z : Value} (ty : TypeId) (ht : P.underlying t = some (.slice e)) (hu : P.underlying u = some (.int .i64)) (hi : P.info? e = some i) (hz : i.zero = some z) (hsz : 0 < i.size) {k : IntKind} {n : Int} (h0 : 0 < n) (h63 : n ≤ 140737488355328) (hb : n * i.bytes ≤ 140737488355328) :
  (Builtin.append_ #[t, u] ty #[.slice none 0 0, .int k n]).run P w =
   .ok (.slice (some ⟨w.heap.size, 0, none⟩) n.toNat (grownCap w n.toNat 0 e)) (w.drew.alloc (.cells (Builtin.zeroCells z.cells n.toNat ++ Builtin.zeroCells z.cells (grownCap w n.toNat 0 e - n.toNat)) e)) := by
 have wl : IntKind.i64.wrap n = n := by rw [IntKind.wrap_i64]; omega
 have n1 : ¬ n < 0 := by omega
 have n2 : ¬ (281474976710656 < n * (i.bytes : Int)) := by omega
 have n3 : n.toNat ≠ 0 := by omega
 have n4 : ¬ (9223372036854775807 < n) := by omega
 have n5 : ¬ (281474976710656 < Builtin.nextslicecap n.toNat 0 * i.bytes) := by
  rw [nextslicecap_zero (by omega)]
  have : ((n.toNat * i.bytes : Nat) : Int) = n * i.bytes := by rw [Int.natCast_mul, Int.toNat_of_nonneg (by omega)]
  omega
 have n6 : ¬ (n.toNat = 0 ∨ i.size = 0) := by omega
 have n7 : ¬ n ≤ 0 := by omega
 have n8 : ¬ (9223372036854775807 < max n 0) := by omega
 have n9 : ¬ (n.toNat * i.size = 0) := by rw [Nat.mul_eq_zero]; exact n6
 simp [Builtin.append_, run_underlying ht, run_underlying hu, sizeOf, typeInfo, zeroValue, hi, hz, asInt, asIntOf, wl, n1, n2, n3, n4, n5, n6, n7, n8, n9, h0, Int.toNat_of_nonneg (show 0 ≤ n by omega), Question.forced, Builtin.firstCells, loadCells, loadCellsFrom, newRow, grownCap]
theorem app_zeros (h : FRx cx Im M st a w) {t u e ty : TypeId} (he : elemOf P t = some e) (hu : P.underlying u = some (.int .i64)) (hok : elemOk P e) {z : AV} (hz : zeroOf P e = some z) {k : IntKind} {n : Int} (h0 : 0 < n) (h63 : n ≤ 140737488355328) (hb : n * P.bytesOf e ≤ 140737488355328) {d : Nat} (hun : st.heap[st.k + d]? = some .un)
  (hk : K (Go.Proofs.YtodfkdnkgedgeaaT.put (hset st (st.k + d) (.arr e (P.cellsOf e) (List.replicate n.toNat z.cells))) (some d) (.bsl (st.k + d)))) : ∃ v' w', (Builtin.append_ #[t, u] ty #[.slice none 0 0, .int k n]).run P w = .ok v' w' ∧ Kx cx K (a.put (some d) v') w' := by
 obtain ⟨i, v, hi, hv, hzv⟩ := zeroOf_some hz
 obtain ⟨i', v', hi', hv', hsz, hzs, hby⟩ := elemOk_info hok
 rw [hi] at hi'
 cases hi'
 rw [hv] at hv'
 cases hv'
 obtain ⟨hc0, z', hz', hsol, hlen⟩ := hok
 rw [hz] at hz'
 cases hz'
 subst hzv
 have hrun := run_append_zeros (P := P) (w := w) (k := k) (n := n) ty (elemOf_some he) hu hi hv (by omega) h0 h63 (by rw [hby]; exact hb)
 refine ⟨_, _, hrun, ?_⟩
 have hge := grownCap_ge w n.toNat 0 e
 have hcm := grownCap_le_maxLen w n.toNat 0 e (by unfold maxLen; omega)
 have hcur : (Builtin.zeroCells v.cells n.toNat ++ Builtin.zeroCells v.cells (grownCap w n.toNat 0 e - n.toNat)).toList.take (n.toNat * P.cellsOf e) = (Builtin.zeroCells v.cells n.toNat).toList := by
  rw [Array.toList_append]
  have : n.toNat * P.cellsOf e = (Builtin.zeroCells v.cells n.toNat).toList.length := by rw [Array.length_toList, size_zeroCells, hzs]
  rw [this]; exact List.take_left
 have hch : Chunks Im w.drew (P.cellsOf e) ((Builtin.zeroCells v.cells n.toNat ++ Builtin.zeroCells v.cells (grownCap w n.toNat 0 e - n.toNat)).toList.take ((List.replicate n.toNat (ofVal v).cells).length * P.cellsOf e)) (List.replicate n.toNat (ofVal v).cells) := by
  rw [List.length_replicate, hcur]
  refine zero_chunks hsol hlen hc0 (by rw [Array.length_toList, size_zeroCells, hzs]) (fun j hj => ?_)
  simp [Builtin.zeroCells, hzs, hj]
 have hna := new_arr h.drew (K := K) (t := d) (cap := grownCap w n.toNat 0 e) hun hch (by rw [List.length_replicate]; exact hge) hcm (by
  rw [Array.size_append, size_zeroCells, size_zeroCells, hzs, ← Nat.add_mul]; congr 1; omega) hk
 rw [List.length_replicate] at hna
 exact hna
theorem op_conv_bytes {Q : Exit → Act → World → Prop} (h : FRx cx Im M st a w) {o : Oper} {s t : TypeId} {x : Operand} (ho : o.op = .convert s t x) {e : TypeId} (h1 : P.underlying s = some (.slice e)) (he : P.underlying e = some (.int .u8)) (h2 : P.underlying t = some .string) {l : List UInt8}
  (hx : elems st.heap (ev st x) = some (l.map fun b => [.int .u8 (b.toNat : Int)])) (hk : K (Go.Proofs.YtodfkdnkgedgeaaT.put st o.dst (.str ⟨l.toArray⟩))) : o.wp P a w (Kx cx K) Q := by
 obtain ⟨ad, c, news, hv, hn, hc, hch⟩ := elems_list h (ev_sound h x) hx (sz := 1) (by decide) (by simp)
 refine wp_val (v := .string ⟨l.toArray⟩) (w' := w) ?_ (Kx.mk (h.put (.str _) _) hk)
 have hlen : (l.map fun b => [AV.int .u8 (b.toNat : Int)]).length = l.length := by simp
 rw [hlen] at hv hc
 have hr : (convert s t (.slice ad l.length c)).run P w = .ok (.string ⟨l.toArray⟩) w := by
  cases ad with
  | none =>
   have hl : l = [] := by
    cases l with
    | nil => rfl
    | cons b l => obtain ⟨_, h0, _⟩ := hc (by simp); cases h0
   subst hl
   exact run_convert_bytes_nil w s e h1 he _ _ t h2
  | some q =>
   refine run_convert_bytes_back w s t e q c l h1 he h2 fun j hj => ?_
   obtain ⟨q', hq, hcell⟩ := hc (by omega)
   cases hq
   have hxj : (l.map fun b => [AV.int .u8 (b.toNat : Int)])[j]? = some [.int .u8 (l[j].toNat : Int)] := by simp [hj]
   obtain ⟨u, hu, hur⟩ := hch.2.2 j _ 0 _ hxj rfl
   rw [R_int hur] at hu
   simp only [Nat.mul_one, Nat.add_zero] at hu
   exact hcell j _ hu
 simp only [execOp, ho, hv, hr]
 simp [hr, hv]
end Go.Proofs.YtodfkdnkgedgeaaT
