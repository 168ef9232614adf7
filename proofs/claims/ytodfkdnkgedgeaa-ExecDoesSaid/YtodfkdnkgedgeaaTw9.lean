/- Walks over the program's functions, on values without memory, and what they come to. No condition. -/
import Derived.Test.YtodfkdnkgedgeaaTw8
set_option linter.unusedVariables false
set_option linter.unusedSimpArgs false
namespace Go.Proofs.YtodfkdnkgedgeaaT
open Go Go.RowKit
variable {cx : Cx} {Im : Nat → Prop} {M : Nat → Option Value} {st : St} {a : Act} {w : World} {P : Program} {K : St → Prop} {Q : Exit → Act → World → Prop}
theorem fieldOf_some {t : TypeId} {f off n : Nat} {ag : Bool} (h : fieldOf P t f = some (off, ag, n)) : ∃ fs x d, P.underlying t = some (.struct fs) ∧ fs[f]? = some x ∧ P.underlying x.type = some d ∧ x.offset = off ∧ Go.Proofs.YtodfkdnkgedgeaaT.isAgg P x.type = ag ∧ P.cellsOf x.type = n := by
 unfold fieldOf at h
 split at h
 ·rename_i fs hu
  obtain ⟨x, hx, h⟩ := Option.bind_eq_some_iff.1 h
  split at h
  ·rename_i hs
   obtain ⟨d, hd⟩ := Option.isSome_iff_exists.1 hs
   simp only [Option.some.injEq, Prod.mk.injEq] at h
   exact ⟨fs, x, d, hu, hx, hd, h.1, h.2.1, h.2.2⟩
  ·cases h
 ·cases h
theorem run_fieldAt {t : TypeId} {f off n : Nat} {ag : Bool} (h : fieldOf P t f = some (off, ag, n)) (hn : 0 < n) (ad : Addr) : (Instr.fieldAt t (.pointer (some ad)) f).run P w = .ok (.pointer (some (ad.add off))) w := by
 obtain ⟨fs, x, d, hu, hx, hd, rfl, rfl, rfl⟩ := fieldOf_some h
 unfold Instr.fieldAt
 simp only [Sem.run_bind, run_underlying hu, Result.andThen_ok, hx, Instr.sureAddr, Sem.run_pure, fieldPlace, run_sizeOf hn, if_neg (show ¬ P.cellsOf x.type = 0 by omega)]
theorem op_fieldAddr (h : FRx cx Im M st a w) {o : Oper} {s : TypeId} {x : Operand} {f : Nat} (ho : o.op = .fieldAddr s x f) {off n : Nat} {ag : Bool} (hf : fieldOf P s f = some (off, ag, n)) (hn : 0 < n) {y z : AV} (hx : ev st x = y)
  (hz : (∃ id p, y = .ptr id p ∧ z = .ptr id (p + off)) ∨ (∃ cs, y = .cptr cs ∧ off < cs.length ∧ z = .cptr (cs.drop off)) ∨ (∃ id i sz p, y = .eptr id i sz p ∧ z = .eptr id i sz (p + off))) (hk : K (Go.Proofs.YtodfkdnkgedgeaaT.put st o.dst z)) : o.wp P a w (Kx cx K) Q := by
 subst hx
 have hr := ev_sound h x
 rcases hz with ⟨id, p, hy, rfl⟩ | ⟨cs, hy, ho1, rfl⟩ | ⟨id, i, sz, p, hy, rfl⟩ <;> rw [hy] at hr
 ·obtain ⟨b, he, hm⟩ := R_ptr hr
  refine wp_val (v := .pointer (some ⟨b, p + off, none⟩)) (w' := w) ?_ (Kx.mk (h.put (.ptr _ _ b hm) _) hk)
  have := run_fieldAt (w := w) hf hn ⟨b, p, none⟩
  rw [add_lit] at this
  simp [execOp, ho, he, this]
 ·obtain ⟨ad, g, he, hi, h1, h2, h3⟩ := R_cptr hr
  have hadd : ∀ j, (ad.add off).add j = ad.add (off + j) := by
   intro j
   unfold Addr.add
   by_cases h4 : off = 0
   ·subst h4; simp
   ·by_cases h5 : j = 0
    ·subst h5; simp
    ·rw [if_neg h4, if_neg h5, if_neg (by omega)]; simp [Nat.add_assoc]
  refine wp_val (v := .pointer (some (ad.add off))) (w' := w) (by simp [execOp, ho, he, run_fieldAt hf hn]) (Kx.mk (h.put (.cptr _ _ (fun j => g (off + j)) (by rw [add_block]; exact hi) (fun j y hj => ?_) (fun j y hj => ?_) (fun j y hj => ?_)) _) hk)
  ·rw [hadd]; exact h1 _ y (by rwa [List.getElem?_drop] at hj)
  ·exact h2 _ y (by rwa [List.getElem?_drop] at hj)
  ·exact h3 _ y (by rwa [List.getElem?_drop] at hj)
 ·obtain ⟨g, n, c, he, hm⟩ := R_eptr hr
  refine wp_val (v := .pointer (some ⟨g, i * sz + (p + off), none⟩)) (w' := w) ?_ (Kx.mk (h.put (.eptr _ _ _ _ g n c hm) _) hk)
  have := run_fieldAt (w := w) hf hn ⟨g, i * sz + p, none⟩
  rw [add_lit, Nat.add_assoc] at this
  simp [execOp, ho, he, this]
theorem op_field (h : FRx cx Im M st a w) {o : Oper} {t : TypeId} {x : Operand} {f : Nat} (ho : o.op = .field t x f) {off n : Nat} {ag : Bool} (hf : fieldOf P t f = some (off, ag, n)) {cs : List AV} (hx : ev st x = .agg cs)
  (hk : takeA ag n (cs.drop off) fun r => K (Go.Proofs.YtodfkdnkgedgeaaT.put st o.dst r)) : o.wp P a w (Kx cx K) Q := by
 obtain ⟨vs, he, h1, h2, h3⟩ := R_agg (hx ▸ ev_sound h x)
 obtain ⟨fs, fl, d, hu, hfx, hd, rfl, rfl, rfl⟩ := fieldOf_some hf
 unfold takeA at hk
 by_cases hg : Go.Proofs.YtodfkdnkgedgeaaT.isAgg P fl.type = true
 ·rw [if_pos hg] at hk
  obtain ⟨h0, hn, hk⟩ := hk
  rw [List.length_drop] at hn
  refine wp_val (v := .agg (vs.extract fl.offset (fl.offset + P.cellsOf fl.type))) (w' := w) ?_ (Kx.mk (h.put (.agg _ _ ?_ ?_ ?_) _) hk)
  ·simp only [execOp, ho, he, Instr.field, Sem.run_bind, run_underlying hu, Result.andThen_ok, hfx, asAgg, Sem.run_pure, part, run_isAgg hd, hg, if_true, run_sizeOf h0]
  ·simp; omega
  ·intro v hv; exact h2 v (by obtain ⟨i, hi, rfl⟩ := Array.getElem_of_mem hv; simp)
  ·intro i v c hv hc
   rw [List.getElem?_take] at hc
   split at hc
   ·rw [List.getElem?_drop] at hc
    refine h3 _ v c ?_ hc
    rw [Array.getElem?_extract] at hv
    split at hv
    ·exact hv
    ·cases hv
   ·cases hc
 ·rw [if_neg hg] at hk
  cases hc : cs.drop fl.offset with
  | nil => rw [hc] at hk; exact hk.elim
  | cons c r =>
   rw [hc] at hk
   have hcc : cs[fl.offset]? = some c := by have := congrArg (fun l => l[0]?) hc; simpa using this
   have hi : fl.offset < vs.size := by have := (List.getElem?_eq_some_iff.1 hcc).1; omega
   refine wp_val (v := vs[fl.offset]) (w' := w) ?_ (Kx.mk (h.put (h3 _ _ c (Array.getElem?_eq_getElem hi) hcc) _) hk)
   simp only [execOp, ho, he, Instr.field, Sem.run_bind, run_underlying hu, Result.andThen_ok, hfx, asAgg, Sem.run_pure, part, run_isAgg hd, hg, Bool.false_eq_true, if_false, Array.getElem?_eq_getElem hi]
theorem run_indexAt {t e : TypeId} (he : elemOf P t = some e) (h0 : 0 < P.cellsOf e) {ad : Addr} {len cap : Nat} {k : IntKind} {n : Int} (h1 : 0 ≤ n) (h2 : n < len) : (Instr.indexAt t (.slice (some ad) len cap) (.int k n)).run P w = .ok (.pointer (some (ad.add (n.toNat * P.cellsOf e)))) w := by
 unfold Instr.indexAt
 simp only [Sem.run_bind, run_underlying (elemOf_some he), Result.andThen_ok, asIntOf, Sem.run_pure, if_pos (show 0 ≤ n ∧ n < (len : Int) from ⟨h1, h2⟩), run_sizeOf h0]
theorem R_elem {v : Value} {full : Bool} {es : List (List AV)} (hr : R Im w M v (.sl full es)) {sz : Nat} (hs : ∀ y ∈ es, y.length = sz) {n : Nat} (hn : n < es.length) : ∃ ad c, v = .slice (some ad) es.length c ∧ R Im w M (.pointer (some (ad.add (n * sz)))) (.cptr (es.getD n [])) := by
 obtain ⟨o, c, ad, sz', cs, rfl, h1, h2, h3, h4, h5, h6, h7, h8⟩ := R_sl hr
 obtain ⟨rfl, hi⟩ := h4 (by omega)
 have hel : es[n]? = some (es.getD n []) := by rw [List.getD_eq_getElem?_getD, List.getElem?_eq_getElem hn]; rfl
 have : sz' = sz := (h5 n _ hel).symm.trans (hs _ (List.mem_of_getElem? hel))
 subst this
 have hadd : ∀ j, (ad.add (n * sz')).add j = ad.add (n * sz' + j) := by
  intro j
  unfold Addr.add
  by_cases h4 : n * sz' = 0
  ·rw [h4]; simp
  ·by_cases h5 : j = 0
   ·subst h5; simp
   ·rw [if_neg h4, if_neg h5, if_neg (by omega)]; simp [Nat.add_assoc]
 exact ⟨ad, c, rfl, .cptr _ _ (cs n) (by rw [add_block]; exact hi) (fun j y hj => by rw [hadd]; exact h6 n _ j y hel hj) (fun j y hj => h7 n _ j y hel hj) (fun j y hj => h8 n _ j y hel hj)⟩
theorem op_indexAddr (h : FRx cx Im M st a w) {o : Oper} {t : TypeId} {x i : Operand} (ho : o.op = .indexAddr t x i) {e : TypeId} (he : elemOf P t = some e) {k : IntKind} {n : Int} (hi : ev st i = .int k n) (h0 : 0 < P.cellsOf e) (hn : 0 ≤ n) {y z : AV} (hx : ev st x = y)
  (hz : (∃ id e' es, y = .bsl id ∧ st.heap[id]? = some (.arr e' (P.cellsOf e) es) ∧ n < es.length ∧ z = .eptr id n.toNat (P.cellsOf e) 0) ∨
   (∃ id es, y = .bsl id ∧ st.heap[id]? = some (.imm es) ∧ n < es.length ∧ (∀ y ∈ es, y.length = P.cellsOf e) ∧ z = .cptr (es.getD n.toNat [])) ∨
   (∃ f es, y = .sl f es ∧ n < es.length ∧ (∀ y ∈ es, y.length = P.cellsOf e) ∧ z = .cptr (es.getD n.toNat []))) (hk : K (Go.Proofs.YtodfkdnkgedgeaaT.put st o.dst z)) : o.wp P a w (Kx cx K) Q := by
 subst hx
 have hr := ev_sound h x
 have hri := R_int (hi ▸ ev_sound h i)
 rcases hz with ⟨id, e', es, hy, hid, hlt, rfl⟩ | ⟨id, es, hy, hid, hlt, hs, rfl⟩ | ⟨f, es, hy, hlt, hs, rfl⟩ <;> rw [hy] at hr
 ·obtain ⟨o', m, c, hv, hm⟩ := R_bsl hr
  obtain ⟨v', xs, h1, h2, h3⟩ := h.ob id _ hid
  rw [hm] at h1
  cases h1
  rw [hv] at h2
  rcases owns_block h2 with ⟨_, h00, _⟩ | ⟨g, c', he', _⟩
  ·omega
  simp only [Value.slice.injEq] at he'
  obtain ⟨rfl, rfl, rfl⟩ := he'
  refine wp_val (v := .pointer (some ⟨g, n.toNat * P.cellsOf e + 0, none⟩)) (w' := w) ?_ (Kx.mk (h.put (.eptr _ _ _ _ g _ _ (hm.trans (by rw [hv]))) _) hk)
  have := run_indexAt (w := w) (cap := c) (k := k) he h0 (ad := ⟨g, 0, none⟩) hn hlt
  rw [add_lit, Nat.zero_add] at this
  simp [execOp, ho, hv, hri, this]
 ·obtain ⟨o', m, c, hv, hm⟩ := R_bsl hr
  obtain ⟨v', h1, h2⟩ := h.ob id _ hid
  rw [hm] at h1
  cases h1
  obtain ⟨ad, c', he', hc⟩ := R_elem h2 hs (n := n.toNat) (by omega)
  rw [he'] at hv
  refine wp_val (v := .pointer (some (ad.add (n.toNat * P.cellsOf e)))) (w' := w) ?_ (Kx.mk (h.put hc.pure0 _) hk)
  simp [execOp, ho, he', hri, run_indexAt (w := w) (cap := c') (k := k) he h0 (ad := ad) hn hlt]
 ·obtain ⟨ad, c', he', hc⟩ := R_elem hr hs (n := n.toNat) (by omega)
  refine wp_val (v := .pointer (some (ad.add (n.toNat * P.cellsOf e)))) (w' := w) ?_ (Kx.mk (h.put hc _) hk)
  simp [execOp, ho, he', hri, run_indexAt (w := w) (cap := c') (k := k) he h0 (ad := ad) hn hlt]
theorem op_index (h : FRx cx Im M st a w) {o : Oper} {t : TypeId} {x i : Operand} (ho : o.op = .index t x i) (hu : P.underlying t = some .string) {s : ByteArray} (hx : ev st x = .str s) {k : IntKind} {n : Int} (hi : ev st i = .int k n) {b : UInt8} (hn : 0 ≤ n) (hb : s[n.toNat]? = some b)
  (hk : K (Go.Proofs.YtodfkdnkgedgeaaT.put st o.dst (.int .u8 b.toNat))) : o.wp P a w (Kx cx K) Q := by
 have e1 := R_str (hx ▸ ev_sound h x)
 have e2 := R_int (hi ▸ ev_sound h i)
 refine wp_val (v := .int .u8 b.toNat) (w' := w) ?_ (Kx.mk (h.put (.int _ _) _) hk)
 simp only [execOp, ho, e1, e2, Instr.index, Sem.run_bind, asIntOf, Sem.run_pure, Result.andThen_ok, run_underlying hu, if_pos hn, hb]
theorem arrOf_some {t e : TypeId} {n : Nat} (h : arrOf P t = some (n, e)) : P.underlying t = some (.array n e) ∧ ∃ d, P.underlying e = some d := by
 unfold arrOf at h
 split at h
 ·rename_i m e' hu
  split at h
  ·rename_i hs
   obtain ⟨d, hd⟩ := Option.isSome_iff_exists.1 hs
   simp only [Option.some.injEq, Prod.mk.injEq] at h
   obtain ⟨rfl, rfl⟩ := h
   exact ⟨hu, d, hd⟩
  ·cases h
 ·cases h
theorem run_indexArr {t e : TypeId} {len : Nat} (hu : P.underlying t = some (.array len e)) (h0 : 0 < P.cellsOf e) {k : IntKind} {n : Int} (h1 : 0 ≤ n) (h2 : n < len) (ad : Addr) : (Instr.indexAt t (.pointer (some ad)) (.int k n)).run P w = .ok (.pointer (some (ad.add (n.toNat * P.cellsOf e)))) w := by
 unfold Instr.indexAt
 simp only [Sem.run_bind, run_underlying hu, Result.andThen_ok, asIntOf, Instr.sureAddr, Sem.run_pure, if_pos (show 0 ≤ n ∧ n < (len : Int) from ⟨h1, h2⟩), run_sizeOf h0]
theorem op_indexArr (h : FRx cx Im M st a w) {o : Oper} {t : TypeId} {x i : Operand} (ho : o.op = .indexAddr t x i) {e : TypeId} {len : Nat} (hu : P.underlying t = some (.array len e)) {k : IntKind} {n : Int} (hi : ev st i = .int k n) (h0 : 0 < P.cellsOf e) (hn : 0 ≤ n) (hl : n < len) {off : Nat} (hoff : off = n.toNat * P.cellsOf e) {y z : AV} (hx : ev st x = y)
  (hz : (∃ id p, y = .ptr id p ∧ z = .ptr id (p + off)) ∨ (∃ cs, y = .cptr cs ∧ off < cs.length ∧ z = .cptr (cs.drop off)) ∨ (∃ id i sz p, y = .eptr id i sz p ∧ z = .eptr id i sz (p + off))) (hk : K (Go.Proofs.YtodfkdnkgedgeaaT.put st o.dst z)) : o.wp P a w (Kx cx K) Q := by
 subst hx
 have hr := ev_sound h x
 have hri := R_int (hi ▸ ev_sound h i)
 have hrun : ∀ ad, (Instr.indexAt t (.pointer (some ad)) (.int k n)).run P w = .ok (.pointer (some (ad.add off))) w := fun ad => by rw [hoff]; exact run_indexArr hu h0 hn hl ad
 rcases hz with ⟨id, p, hy, rfl⟩ | ⟨cs, hy, ho1, rfl⟩ | ⟨id, j, sz, p, hy, rfl⟩ <;> rw [hy] at hr
 ·obtain ⟨b, he, hm⟩ := R_ptr hr
  refine wp_val (v := .pointer (some ⟨b, p + off, none⟩)) (w' := w) ?_ (Kx.mk (h.put (.ptr _ _ b hm) _) hk)
  have := hrun ⟨b, p, none⟩
  rw [add_lit] at this
  simp [execOp, ho, he, hri, this]
 ·obtain ⟨ad, g, he, hi, h1, h2, h3⟩ := R_cptr hr
  have hadd : ∀ j, (ad.add off).add j = ad.add (off + j) := by
   intro j
   unfold Addr.add
   by_cases h4 : off = 0
   ·subst h4; simp
   ·by_cases h5 : j = 0
    ·subst h5; simp
    ·rw [if_neg h4, if_neg h5, if_neg (by omega)]; simp [Nat.add_assoc]
  refine wp_val (v := .pointer (some (ad.add off))) (w' := w) (by simp [execOp, ho, he, hri, hrun]) (Kx.mk (h.put (.cptr _ _ (fun j => g (off + j)) (by rw [add_block]; exact hi) (fun j y hj => ?_) (fun j y hj => ?_) (fun j y hj => ?_)) _) hk)
  ·rw [hadd]; exact h1 _ y (by rwa [List.getElem?_drop] at hj)
  ·exact h2 _ y (by rwa [List.getElem?_drop] at hj)
  ·exact h3 _ y (by rwa [List.getElem?_drop] at hj)
 ·obtain ⟨g, m, c, he, hm⟩ := R_eptr hr
  refine wp_val (v := .pointer (some ⟨g, j * sz + (p + off), none⟩)) (w' := w) ?_ (Kx.mk (h.put (.eptr _ _ _ _ g m c hm) _) hk)
  have := hrun ⟨g, j * sz + p, none⟩
  rw [add_lit, Nat.add_assoc] at this
  simp [execOp, ho, he, hri, this]
theorem op_indexAgg (h : FRx cx Im M st a w) {o : Oper} {t : TypeId} {x i : Operand} (ho : o.op = .index t x i) {e : TypeId} {len : Nat} (hu : P.underlying t = some (.array len e)) {d : TypeDesc} (hd : P.underlying e = some d) {k : IntKind} {n : Int} (hi : ev st i = .int k n) (hn : 0 ≤ n) (hl : n < len) {cs : List AV} (hx : ev st x = .agg cs)
  {off : Nat} (hoff : off = n.toNat * P.cellsOf e) (h00 : 0 < P.cellsOf e) (hk : takeA (Go.Proofs.YtodfkdnkgedgeaaT.isAgg P e) (P.cellsOf e) (cs.drop off) fun r => K (Go.Proofs.YtodfkdnkgedgeaaT.put st o.dst r)) : o.wp P a w (Kx cx K) Q := by
 obtain ⟨vs, he, h1, h2, h3⟩ := R_agg (hx ▸ ev_sound h x)
 have hri := R_int (hi ▸ ev_sound h i)
 unfold takeA at hk
 by_cases hg : Go.Proofs.YtodfkdnkgedgeaaT.isAgg P e = true
 ·rw [if_pos hg] at hk
  obtain ⟨h0, hn', hk⟩ := hk
  rw [List.length_drop] at hn'
  refine wp_val (v := .agg (vs.extract off (off + P.cellsOf e))) (w' := w) ?_ (Kx.mk (h.put (.agg _ _ ?_ ?_ ?_) _) hk)
  ·simp only [execOp, ho, he, hri, Instr.index, Sem.run_bind, run_underlying hu, Result.andThen_ok, asIntOf, Sem.run_pure, if_pos (show 0 ≤ n ∧ n < (len : Int) from ⟨hn, hl⟩), part, run_isAgg hd, hg, if_true, run_sizeOf h0, ← hoff]
  ·simp; omega
  ·intro v hv; exact h2 v (by obtain ⟨i, hi, rfl⟩ := Array.getElem_of_mem hv; simp)
  ·intro i v c hv hc
   rw [List.getElem?_take] at hc
   split at hc
   ·rw [List.getElem?_drop] at hc
    refine h3 _ v c ?_ hc
    rw [Array.getElem?_extract] at hv
    split at hv
    ·exact hv
    ·cases hv
   ·cases hc
 ·rw [if_neg hg] at hk
  cases hc : cs.drop off with
  | nil => rw [hc] at hk; exact hk.elim
  | cons c r =>
   rw [hc] at hk
   have hcc : cs[off]? = some c := by have := congrArg (fun l => l[0]?) hc; simpa using this
   have hi : off < vs.size := by have := (List.getElem?_eq_some_iff.1 hcc).1; omega
   refine wp_val (v := vs[off]) (w' := w) ?_ (Kx.mk (h.put (h3 _ _ c (Array.getElem?_eq_getElem hi) hcc) _) hk)
   simp only [execOp, ho, he, hri, Instr.index, Sem.run_bind, run_underlying hu, Result.andThen_ok, asIntOf, Sem.run_pure, if_pos (show 0 ≤ n ∧ n < (len : Int) from ⟨hn, hl⟩), part, run_isAgg hd, hg, Bool.false_eq_true, if_false, run_sizeOf h00, ← hoff, Array.getElem?_eq_getElem hi]
theorem R_part {v : Value} {full : Bool} {es : List (List AV)} (hr : R Im w M v (.sl full es)) {e : TypeId} (h0 : ∀ y ∈ es, y.length = P.cellsOf e) {o : Option Addr} {c : Nat} (hv : v = .slice o es.length c) {l hh m : Nat} {f : Bool} (hl : l ≤ hh) (hhl : hh ≤ es.length) (hm : hh ≤ m) (hmc : m ≤ c) (hf : f = true → hh = m) :
  R Im w M (.slice (if m = l then o else o.map (·.add (l * P.cellsOf e))) (hh - l) (m - l)) (.sl f ((es.take hh).drop l)) := by
 subst hv
 obtain ⟨o', c', ad, sz, cs, he, h1, h2, h3, h4, h5, h6, h7, h8⟩ := R_sl hr
 simp only [Value.slice.injEq, true_and] at he
 obtain ⟨rfl, rfl⟩ := he
 have hlen : ((es.take hh).drop l).length = hh - l := by rw [List.length_drop, List.length_take]; omega
 have hget : ∀ (i : Nat) x, ((es.take hh).drop l)[i]? = some x → es[l + i]? = some x := by
  intro i x hx
  rw [List.getElem?_drop, List.getElem?_take] at hx
  split at hx
  ·exact hx
  ·cases hx
 rw [← hlen]
 by_cases hp : 0 < ((es.take hh).drop l).length
 ·obtain ⟨rfl, hi⟩ := h4 (by omega)
  have hsz : sz = P.cellsOf e := by
   have hel := List.getElem?_eq_getElem (l := es) (i := 0) (by omega)
   exact (h5 0 _ hel).symm.trans (h0 _ (List.mem_of_getElem? hel))
  subst hsz
  rw [if_neg (by omega)]
  have hadd : ∀ j, (ad.add (l * P.cellsOf e)).add j = ad.add (l * P.cellsOf e + j) := by
   intro j
   unfold Addr.add
   by_cases h4 : l * P.cellsOf e = 0
   ·rw [h4]; simp
   ·by_cases h5 : j = 0
    ·subst h5; simp
    ·rw [if_neg h4, if_neg h5, if_neg (by omega)]; simp [Nat.add_assoc]
  refine .sl _ _ f _ (ad.add (l * P.cellsOf e)) (P.cellsOf e) (fun i j => cs (l + i) j) (by omega) (fun hh => by have := hf hh; omega) (by omega) (fun _ => ⟨rfl, by rw [add_block]; exact hi⟩) (fun i x hx => h5 _ x (hget i x hx)) (fun i x j y hx hy => ?_) (fun i x j y hx hy => h7 _ x j y (hget i x hx) hy) (fun i x j y hx hy => h8 _ x j y (hget i x hx) hy)
  rw [hadd, ← Nat.add_assoc, ← Nat.add_mul]
  exact h6 _ x j y (hget i x hx) hy
 ·have hnil : (es.take hh).drop l = [] := List.eq_nil_of_length_eq_zero (by omega)
  rw [hnil]
  exact .sl _ _ f [] ⟨0, 0, none⟩ 0 (fun _ _ => .bool false) (Nat.zero_le _) (fun hh => by have := hf hh; simp only [hnil] at hp; rw [hnil] at hlen; simp at hlen; simp; omega) (by omega) (fun h => by simp at h) (fun i x h => by simp at h) (fun i x j y h => by simp at h) (fun i x j y h => by simp at h) (fun i x j y h => by simp at h)
theorem run_slice3 {t e : TypeId} (he : elemOf P t = some e) (h0 : 0 < P.cellsOf e) {o : Option Addr} {len c : Nat} {lo hi mx : Option Value} {l hh m : Nat} (hb : (Instr.sliceBounds true len c lo hi mx).run P w = .ok (l, hh, m) w) :
  (Instr.sliceAt t (.slice o len c) lo hi mx).run P w = .ok (.slice (if m = l then o else o.map (·.add (l * P.cellsOf e))) (hh - l) (m - l)) w := by
 unfold Instr.sliceAt
 simp only [Sem.run_bind, run_underlying (elemOf_some he), Result.andThen_ok, Instr.slice, hb, run_sizeOf h0, Sem.run_pure]
theorem run_bound {k : IntKind} {i : Int} {y : Nat} {code : BoundsCode} (h0 : 0 ≤ i) (h1 : i ≤ y) : (Instr.sliceBound (.int k i) y code).run P w = .ok i.toNat w := by
 unfold Instr.sliceBound
 simp only [Sem.run_bind, asIntOf, Sem.run_pure, Result.andThen_ok, if_pos (show 0 ≤ i ∧ i ≤ (y : Int) from ⟨h0, h1⟩)]
theorem run_bounds {b : Bool} {len c : Nat} {lo hi mx : Option Value} {l hh : Int} {m : Nat} (hl : 0 ≤ l) (hlh : l ≤ hh) (hhm : hh ≤ m)
  (hlo : match lo with | some v => ∃ k, v = .int k l | none => l = 0) (hhi : match hi with | some v => ∃ k, v = .int k hh | none => hh = len ∧ mx = none) (hmx : match mx with | some v => ∃ k n, v = .int k n ∧ 0 ≤ n ∧ n.toNat = m ∧ m ≤ c | none => m = c) :
  (Instr.sliceBounds b len c lo hi mx).run P w = .ok (l.toNat, hh.toNat, m) w := by
 unfold Instr.sliceBounds
 have hbl : ∀ (k : IntKind) (code : BoundsCode), (Instr.sliceBound (.int k l) hh.toNat code).run P w = .ok l.toNat w := fun k code => run_bound hl (by omega)
 have hbh : ∀ (k : IntKind) (code : BoundsCode), (Instr.sliceBound (.int k hh) m code).run P w = .ok hh.toNat w := fun k code => run_bound (by omega) hhm
 cases mx with
 | none =>
  simp only at hmx
  subst hmx
  cases hi with
  | none =>
   obtain ⟨rfl, _⟩ := hhi
   cases lo with
   | none => subst hlo; simp
   | some v => obtain ⟨k, rfl⟩ := hlo; simp only [Sem.run_bind, Sem.run_pure, Result.andThen_ok, Option.isSome_none, Bool.false_eq_true, if_false]; have := hbl k .sliceB; simp only [Int.toNat_natCast] at this ⊢; rw [this]; rfl
  | some u =>
   obtain ⟨k', rfl⟩ := hhi
   cases lo with
   | none => subst hlo; simp [hbh]
   | some v => obtain ⟨k, rfl⟩ := hlo; simp [hbh, hbl]
 | some x =>
  obtain ⟨k2, n, rfl, hn, rfl, hmc⟩ := hmx
  have hbm : ∀ (code : BoundsCode), (Instr.sliceBound (.int k2 n) c code).run P w = .ok n.toNat w := fun code => run_bound hn (by omega)
  cases hi with
  | none => obtain ⟨_, he⟩ := hhi; cases he
  | some u =>
   obtain ⟨k', rfl⟩ := hhi
   cases lo with
   | none => subst hlo; simp [hbm, hbh]
   | some v => obtain ⟨k, rfl⟩ := hlo; simp [hbm, hbh, hbl]
theorem vSlice_sound (h : FRx cx Im M st a w) {t : TypeId} {x : Operand} {lo hi mx : Option Operand} {N : St → AV → Prop} (hs : vSlice P t st (ev st x) lo hi mx N) :
  ∃ v st' r Im', (Instr.sliceAt t (a.eval x) (lo.map a.eval) (hi.map a.eval) (mx.map a.eval)).run P w = .ok v w ∧ FRx cx Im' M st' a w ∧ R Im' w M v r ∧ N st' r := by
 have hr := ev_sound h x
 have hat : ∀ (z : Option Operand) (d : Int) (k : IntKind) (n : Int), intAt st d z = .int k n → match (z.map a.eval) with | some v => ∃ k, v = .int k n | none => n = d := by
  intro z d k n hz
  cases z with
  | none => simp only [intAt, AV.int.injEq] at hz; exact hz.2.symm
  | some y =>
   have hz : ev st y = .int k n := hz
   exact ⟨k, R_int (hz ▸ ev_sound h y)⟩
 unfold vSlice at hs
 split at hs
 ·rename_i s hx
  rw [hx] at hr
  have e1 := R_str hr
  split at hs
  ·rename_i _ _ _ k1 l k2 hh h1 h2
   obtain ⟨hu, h0, hlh, hhs, hN⟩ := hs
   refine ⟨.string (s.extract l.toNat hh.toNat), st, _, Im, ?_, h, .str _, hN⟩
   have hb := run_bounds (P := P) (w := w) (b := false) (len := s.size) (c := s.size) (lo := lo.map a.eval) (hi := hi.map a.eval) (mx := none) (m := s.size) h0 hlh hhs (hat lo 0 _ _ h1) (by have := hat hi _ _ _ h2; cases hi <;> simp_all) rfl
   simp only [Instr.sliceAt, Sem.run_bind, run_underlying hu, Result.andThen_ok, e1, Instr.slice, Option.map_none, Option.isSome_none, Bool.false_eq_true, if_false, Sem.run_pure, hb]
  ·exact hs.elim
 ·rename_i hx
  rw [hx] at hr
  have e1 := R_nils hr
  split at hs
  ·rename_i _ _ _ _ e k1 l k2 hh he h1 h2
   obtain ⟨rfl, rfl, h0, hN⟩ := hs
   refine ⟨.slice none 0 0, st, _, Im, ?_, h, .nils, hN⟩
   have hb := run_bounds (P := P) (w := w) (b := true) (len := 0) (c := 0) (lo := lo.map a.eval) (hi := hi.map a.eval) (mx := none) (m := 0) (Int.le_refl _) (Int.le_refl _) (Int.le_refl _) (hat lo 0 _ _ h1) (by have := hat hi _ _ _ h2; cases hi <;> simp_all) rfl
   rw [Option.map_none, e1]
   have := run_slice3 (P := P) (w := w) he h0 (o := none) (len := 0) (c := 0) hb
   simpa using this
  ·exact hs.elim
 ·obtain ⟨Im', hI, hI2, hF, hfr⟩ := freeze h [ev st x]
  have hF' : FRx cx Im' M { st with heap := frzH st.heap (ev st x) } a w := by simpa [frzHL, frzH, namesL] using hF
  have hR := hfr _ _ hr (fun id hid => by simpa [namesL] using hid)
  split at hs
  ·rename_i _ _ _ e es he hes
   obtain ⟨hlen, h0, hs⟩ := hs
   have hsl : ∃ f, R Im' w (fun _ => none) (a.eval x) (.sl f es) := by
    generalize frz st.heap (ev st x) = z at hR hes
    unfold elems at hes
    split at hes
    ·cases hes
     exact ⟨false, hR.le (by simp [le])⟩
    ·cases hes; exact ⟨_, hR⟩
    ·simp at hes
    ·cases hes
   obtain ⟨f, hR2⟩ := hsl
   obtain ⟨o, c, _, _, _, hv, hc, _⟩ := R_sl hR2
   split at hs
   ·rename_i _ _ _ k1 l k2 hh h1 h2 h3
    obtain ⟨hl, hlh, hhl, hN⟩ := hs
    have hb := run_bounds (P := P) (w := w) (b := true) (len := es.length) (c := c) (lo := lo.map a.eval) (hi := hi.map a.eval) (mx := none) (m := c) hl hlh (by omega) (hat lo 0 _ _ h1) (by have := hat hi _ _ _ h2; cases hi <;> simp_all) rfl
    refine ⟨_, _, _, Im', ?_, hF', (R_part hR2 hlen hv (l := l.toNat) (hh := hh.toNat) (m := c) (f := false) (by omega) (by omega) (by omega) (Nat.le_refl _) (fun h => by cases h)).pure0, hN⟩
    have hmx : mx.map a.eval = none := by cases mx with | none => rfl | some y => simp at h3
    rw [hmx, hv]
    exact run_slice3 he h0 hb
   ·rename_i _ _ _ k1 l k2 hh k3 m h1 h2 h3
    obtain ⟨hl, hlh, hhm, hml, hne, hN⟩ := hs
    cases mx with
    | none => simp at h3
    | some y =>
     have e3 := R_int ((Option.some.inj h3) ▸ ev_sound h y)
     have hb := run_bounds (P := P) (w := w) (b := true) (len := es.length) (c := c) (lo := lo.map a.eval) (hi := hi.map a.eval) (mx := some (.int k3 m)) (m := m.toNat) hl hlh (by omega) (hat lo 0 _ _ h1)
      (by have := hat hi _ _ _ h2; cases hi with | none => exact absurd rfl hne | some z => simpa using this) ⟨k3, m, rfl, by omega, rfl, by omega⟩
     refine ⟨_, _, _, Im', ?_, hF', (R_part hR2 hlen hv (l := l.toNat) (hh := hh.toNat) (m := m.toNat) (f := decide (hh = m)) (by omega) (by omega) (by omega) (by omega) (fun h => by have := of_decide_eq_true h; omega)).pure0, hN⟩
     rw [show (some y).map a.eval = some (.int k3 m) from congrArg some e3, hv]
     exact run_slice3 he h0 hb
   ·exact hs.elim
  ·exact hs.elim
theorem op_slice (h : FRx cx Im M st a w) {o : Oper} {t : TypeId} {x : Operand} {lo hi mx : Option Operand} (ho : o.op = .slice t x lo hi mx) (hs : vSlice P t st (ev st x) lo hi mx fun st' r => K (Go.Proofs.YtodfkdnkgedgeaaT.put st' o.dst r)) : o.wp P a w (Kx cx K) Q := by
 obtain ⟨v, st', r, Im', h1, h2, h3, h4⟩ := vSlice_sound h hs
 exact wp_val (v := v) (w' := w) (by simp [execOp, ho, h1]) (Kx.mk (h2.put h3 _) h4)
theorem op_cut (h : FRx cx Im M st a w) {o : Oper} {t e : TypeId} {x hi : Operand} (ho : o.op = .slice t x none (some hi) none) {id sz d : Nat} {es : List (List AV)} (hd : o.dst = some d) (hx : ev st x = .bsl id) (hh : ev st hi = .int .i64 0) (hid : st.heap[id]? = some (.arr e sz es)) (he : elemOf P t = some e) (h0 : 0 < P.cellsOf e)
  (hun : st.heap[st.k + d]? = some .un) (hk : K (Go.Proofs.YtodfkdnkgedgeaaT.put (hset (hset st id .dead) (st.k + d) (.arr e sz [])) (some d) (.bsl (st.k + d)))) : o.wp P a w (Kx cx K) Q := by
 obtain ⟨oo, n, c, hv, hm⟩ := R_bsl (hx ▸ ev_sound h x)
 have e2 := R_int (hh ▸ ev_sound h hi)
 obtain ⟨v', xs, m1, m2, m3⟩ := h.ob id _ hid
 rw [hm] at m1
 cases m1
 have hb := run_bounds (P := P) (w := w) (b := true) (len := n) (c := c) (lo := none) (hi := some (.int .i64 0)) (mx := none) (l := 0) (hh := 0) (m := c) (Int.le_refl _) (Int.le_refl _) (by omega) rfl ⟨_, rfl⟩ rfl
 have hrun := run_slice3 (P := P) (w := w) he h0 (o := oo) (len := n) (c := c) hb
 have hidne : id ≠ st.k + d := fun e' => by rw [e', hun] at hid; cases hid
 have hun2 : (hset st id .dead).heap[st.k + d]? = some .un := by
  show (st.heap.set id .dead)[st.k + d]? = _
  rw [List.getElem?_set_ne hidne]; exact hun
 have hkill := h.kill id
 have hadd0 : ∀ (ad : Addr), ad.add (0 * P.cellsOf e) = ad := fun ad => by rw [Nat.zero_mul]; unfold Addr.add; simp
 have hres : (Instr.sliceAt t (a.eval x) none (some (a.eval hi)) none).run P w = .ok (.slice oo 0 c) w := by
  rw [hv, e2, hrun]
  congr 2
  by_cases hc : c = (0 : Int).toNat
  ·rw [if_pos hc]
  ·rw [if_neg hc]
   cases oo with
   | none => rfl
   | some ad => simp only [Option.map_some, Int.toNat_zero, hadd0]
 have hnew : ∃ b, (oo = none ∧ c = 0 ∧ b = (none : Option Nat)) ∨ ∃ g, oo = some ⟨g, 0, none⟩ ∧ b = some g ∧ ownB st.heap M id = some g := by
  rw [hv] at m2
  rcases owns_block m2 with ⟨e3, _, _⟩ | ⟨g, c', e3, e4, _⟩
  ·simp only [Value.slice.injEq] at e3
   exact ⟨none, .inl ⟨e3.1, e3.2.2, rfl⟩⟩
  ·simp only [Value.slice.injEq] at e3
   exact ⟨some g, .inr ⟨g, e3.1, rfl, (ownB_arr hid hm).trans (by rw [hv]; exact e4)⟩⟩
 have hown0 : w.ownsRow 0 e sz (.slice oo 0 c) 0 [] := by
  rw [hv] at m2
  refine ⟨by simp, ?_⟩
  rcases m2.2 with ⟨e3, _⟩ | ⟨g, cap, cur, e3, h1, h2, h3, h4, h5, h6⟩
  ·simp only [Value.slice.injEq] at e3
   obtain ⟨rfl, _, rfl⟩ := e3
   exact .inl ⟨rfl, rfl⟩
  ·simp only [Value.slice.injEq] at e3
   obtain ⟨rfl, _, rfl⟩ := e3
   exact .inr ⟨g, c, cur, rfl, h1, h2, Nat.zero_le _, h4, h5, by simp⟩
 have hn := hkill.new (id := st.k + d) hun2 (Nat.le_add_right _ _) (w' := w) h.kp (Nat.le_refl _) (fun _ _ => rfl) (fun _ _ _ => rfl) (.slice oo 0 c) (.arr e sz []) ⟨.slice oo 0 c, [], by simp, hown0, fun i x h => by simp at h, fun u h => by simp at h, fun i x j y h => by simp at h⟩ (fun b hb => by
  unfold ownB at hb
  rw [List.getElem?_set_self (List.getElem?_eq_some_iff.1 hun2).1] at hb
  simp only [if_true] at hb
  obtain ⟨_, hnb | ⟨g, rfl, _, hg⟩⟩ := hnew
  ·obtain ⟨rfl, _, _⟩ := hnb
   cases hb
  ·cases hb
   obtain ⟨s1, s2, s3⟩ := h.sep id _ hg
   refine ⟨s1, s2, s3, fun i hi' => ?_⟩
   have hi2 : ownB (st.heap.set id .dead) M i = some g := hi'
   by_cases hii : i = id
   ·subst hii
    unfold ownB at hi2
    rw [List.getElem?_set_self (List.getElem?_eq_some_iff.1 hid).1] at hi2
    cases hi2
   ·rw [ownB_set_ne hii rfl] at hi2
    exact h.own i id g hii hi2 hg)
 refine wp_val (v := .slice oo 0 c) (w' := w) ?_ ?_
 ·simp [execOp, ho, hres]
 ·rw [hd]
  exact Kx.mk (hn.put (.bsl _ _ _ _ (by simp)) (some d)) hk
theorem op_cutn (h : FRx cx Im M st a w) {o : Oper} {t e : TypeId} {x hi : Operand} (ho : o.op = .slice t x none (some hi) none) {id sz d : Nat} {es : List (List AV)} (hd : o.dst = some d) (hx : ev st x = .bsl id) {n0 : Nat} (hh : ev st hi = .int .i64 n0) (hn0 : n0 ≤ es.length) (hid : st.heap[id]? = some (.arr e sz es)) (he : elemOf P t = some e) (h0 : 0 < P.cellsOf e)
  (hun : st.heap[st.k + d]? = some .un) (hk : K (Go.Proofs.YtodfkdnkgedgeaaT.put (hset (hset st id .dead) (st.k + d) (.arr e sz (es.take n0))) (some d) (.bsl (st.k + d)))) : o.wp P a w (Kx cx K) Q := by
 obtain ⟨oo, n, c, hv, hm⟩ := R_bsl (hx ▸ ev_sound h x)
 have e2 := R_int (hh ▸ ev_sound h hi)
 obtain ⟨v', xs, m1, m2, m3⟩ := h.ob id _ hid
 rw [hm] at m1
 cases m1
 have hnc : n0 ≤ c := by
  have m2' := m2
  rw [hv] at m2'
  rcases owns_block m2' with ⟨e3, e4, _⟩ | ⟨g, c', e3, _, e5, _⟩
  ·omega
  ·simp only [Value.slice.injEq] at e3
   omega
 have hb := run_bounds (P := P) (w := w) (b := true) (len := n) (c := c) (lo := none) (hi := some (.int .i64 n0)) (mx := none) (l := 0) (hh := n0) (m := c) (Int.le_refl _) (by omega) (by omega) rfl ⟨_, rfl⟩ rfl
 have hrun := run_slice3 (P := P) (w := w) he h0 (o := oo) (len := n) (c := c) hb
 have hidne : id ≠ st.k + d := fun e' => by rw [e', hun] at hid; cases hid
 have hun2 : (hset st id .dead).heap[st.k + d]? = some .un := by
  show (st.heap.set id .dead)[st.k + d]? = _
  rw [List.getElem?_set_ne hidne]; exact hun
 have hkill := h.kill id
 have hadd0 : ∀ (ad : Addr), ad.add (0 * P.cellsOf e) = ad := fun ad => by rw [Nat.zero_mul]; unfold Addr.add; simp
 have hres : (Instr.sliceAt t (a.eval x) none (some (a.eval hi)) none).run P w = .ok (.slice oo n0 c) w := by
  rw [hv, e2, hrun]
  congr 2
  by_cases hc : c = (0 : Int).toNat
  ·rw [if_pos hc]
  ·rw [if_neg hc]
   cases oo with
   | none => rfl
   | some ad => simp only [Option.map_some, Int.toNat_zero, hadd0]
 have hnew : ∃ b, (oo = none ∧ c = 0 ∧ b = (none : Option Nat)) ∨ ∃ g, oo = some ⟨g, 0, none⟩ ∧ b = some g ∧ ownB st.heap M id = some g := by
  rw [hv] at m2
  rcases owns_block m2 with ⟨e3, _, _⟩ | ⟨g, c', e3, e4, _⟩
  ·simp only [Value.slice.injEq] at e3
   exact ⟨none, .inl ⟨e3.1, e3.2.2, rfl⟩⟩
  ·simp only [Value.slice.injEq] at e3
   exact ⟨some g, .inr ⟨g, e3.1, rfl, (ownB_arr hid hm).trans (by rw [hv]; exact e4)⟩⟩
 have hown0 : w.ownsRow 0 e sz (.slice oo n0 c) n0 (xs.take (n0 * sz)) := by
  rw [hv] at m2
  have hmul : n0 * sz ≤ es.length * sz := Nat.mul_le_mul_right _ hn0
  refine ⟨by rw [List.length_take, m2.1]; omega, ?_⟩
  rcases m2.2 with ⟨e3, e4⟩ | ⟨g, cap, cur, e3, h1, h2, h3, h4, h5, h6⟩
  ·simp only [Value.slice.injEq] at e3
   obtain ⟨rfl, _, rfl⟩ := e3
   have : n0 = 0 := by omega
   subst this
   exact .inl ⟨rfl, rfl⟩
  ·simp only [Value.slice.injEq] at e3
   obtain ⟨rfl, _, rfl⟩ := e3
   exact .inr ⟨g, c, cur, rfl, h1, h2, hnc, h4, h5, by rw [← h6, List.take_take, Nat.min_eq_left hmul]⟩
 have hch : Chunks Im w sz (xs.take (n0 * sz)) (es.take n0) := by
  refine ⟨fun i x hi => ?_, fun u hu => m3.2.1 u (List.mem_of_mem_take hu), fun i x j y hi hj => ?_⟩
  ·rw [List.getElem?_take] at hi
   split at hi
   ·exact m3.1 i x hi
   ·cases hi
  ·rw [List.getElem?_take] at hi
   split at hi
   ·rename_i hlt
    obtain ⟨u, h1, h2⟩ := m3.2.2 i x j y hi hj
    have hsz := m3.1 i x hi
    have hjl : j < sz := by have := (List.getElem?_eq_some_iff.1 hj).1; omega
    refine ⟨u, ?_, h2⟩
    rw [List.getElem?_take, if_pos]
    ·exact h1
    ·have : (i + 1) * sz ≤ n0 * sz := Nat.mul_le_mul_right _ hlt
     rw [Nat.succ_mul] at this
     omega
   ·cases hi
 have hn := hkill.new (id := st.k + d) hun2 (Nat.le_add_right _ _) (w' := w) h.kp (Nat.le_refl _) (fun _ _ => rfl) (fun _ _ _ => rfl) (.slice oo n0 c) (.arr e sz (es.take n0)) ⟨.slice oo n0 c, xs.take (n0 * sz), by simp, by rw [List.length_take, Nat.min_eq_left hn0]; exact hown0, hch⟩ (fun b hb => by
  unfold ownB at hb
  rw [List.getElem?_set_self (List.getElem?_eq_some_iff.1 hun2).1] at hb
  simp only [if_true] at hb
  obtain ⟨_, hnb | ⟨g, rfl, _, hg⟩⟩ := hnew
  ·obtain ⟨rfl, _, _⟩ := hnb
   cases hb
  ·cases hb
   obtain ⟨s1, s2, s3⟩ := h.sep id _ hg
   refine ⟨s1, s2, s3, fun i hi' => ?_⟩
   have hi2 : ownB (st.heap.set id .dead) M i = some g := hi'
   by_cases hii : i = id
   ·subst hii
    unfold ownB at hi2
    rw [List.getElem?_set_self (List.getElem?_eq_some_iff.1 hid).1] at hi2
    cases hi2
   ·rw [ownB_set_ne hii rfl] at hi2
    exact h.own i id g hii hi2 hg)
 refine wp_val (v := .slice oo n0 c) (w' := w) ?_ ?_
 ·simp [execOp, ho, hres]
 ·rw [hd]
  exact Kx.mk (hn.put (.bsl _ _ _ _ (by simp)) (some d)) hk
theorem op_range (h : FRx cx Im M st a w) {o : Oper} {t : TypeId} {x : Operand} {s : ByteArray} (ho : o.op = .range t x) (hu : P.underlying t = some .string) (hx : ev st x = .str s) {d : Nat} (hd : o.dst = some d) (hid : st.heap[st.k + d]? = some .un)
  (hk : K (Go.Proofs.YtodfkdnkgedgeaaT.put (hset st (st.k + d) (.iter s 0)) (some d) (.ptr (st.k + d) 0))) : o.wp P a w (Kx cx K) Q := by
 have e := R_str (hx ▸ ev_sound h x)
 refine wp_val (v := .pointer (some ⟨w.heap.size, 0, none⟩)) (w' := w.alloc (.stringIter s 0)) ?_ ?_
 ·simp [execOp, ho, e, Instr.range, run_underlying hu]
  try rfl
 ·rw [hd]
  have hn := h.alloc hid (Nat.le_add_right _ _) (.stringIter s 0) (.pointer (some ⟨w.heap.size, 0, none⟩)) (.iter s 0) ⟨w.heap.size, by simp, heap_alloc_new' w _⟩
   (fun b hb => by
    unfold ownB at hb
    rw [List.getElem?_set_self (List.getElem?_eq_some_iff.1 hid).1] at hb
    simpa using hb.symm)
  exact Kx.mk (hn.put (.ptr _ _ w.heap.size (by simp)) (some d)) hk
theorem op_next (h : FRx cx Im M st a w) {o : Oper} {it : Operand} (ho : o.op = .next it true) {id p : Nat} {s : ByteArray} (hx : ev st it = .ptr id 0) (hid : st.heap[id]? = some (.iter s p))
  (hk : if p < s.size then K (Go.Proofs.YtodfkdnkgedgeaaT.put (hset st id (.iter s (p + (Utf8.decode s p).2))) o.dst (.tup [.bool true, .int .i64 p, .int .i32 (Utf8.decode s p).1])) else K (Go.Proofs.YtodfkdnkgedgeaaT.put st o.dst (.tup [.bool false]))) : o.wp P a w (Kx cx K) Q := by
 obtain ⟨b, he, hm⟩ := R_ptr (hx ▸ ev_sound h it)
 obtain ⟨b', hm', hblk⟩ := h.ob id _ hid
 rw [hm] at hm'
 simp only [Option.some.injEq, Value.pointer.injEq, Addr.mk.injEq, and_true] at hm'
 subst hm'
 have hlt : b < w.heap.size := (Array.getElem?_eq_some_iff.1 hblk).1
 by_cases hp : p < s.size
 ·rw [if_pos hp] at hk
  have hob := ownB_iter hid hm
  have hw := h.write hob (w' := { w with heap := w.heap.setIfInBounds b (.stringIter s (p + (Utf8.decode s p).2)) }) rfl rfl rfl (by simp) (fun k hk' => by simp [Array.getElem?_setIfInBounds, Ne.symm hk']) (o := .iter s (p + (Utf8.decode s p).2)) ⟨b, hm, by simp [Array.getElem?_setIfInBounds, hlt]⟩ (fun c hc => by
   rw [ownB_iter (List.getElem?_set_self (List.getElem?_eq_some_iff.1 hid).1) hm] at hc
   exact (Option.some.inj hc).symm)
  refine wp_val (v := .tuple #[.bool true, .int .i64 p, .int .i32 (Utf8.decode s p).1]) (w' := { w with heap := w.heap.setIfInBounds b (.stringIter s (p + (Utf8.decode s p).2)) }) ?_ (Kx.mk (hw.put ?_ _) hk)
  ·simp [execOp, ho, he, Instr.next, getObj, setObj, Sem.run, hblk, hp, goInt]
   try rfl
  ·refine .tup _ _ rfl fun i v c hv hc => ?_
   match i with
   | 0 => simp at hv hc; subst hv hc; exact .bool _
   | 1 => simp at hv hc; subst hv hc; exact .int _ _
   | 2 => simp at hv hc; subst hv hc; exact .int _ _
   | i + 3 => simp at hv
 ·rw [if_neg hp] at hk
  refine wp_val (v := .tuple #[.bool false]) (w' := w) ?_ (Kx.mk (h.put ?_ _) hk)
  ·simp [execOp, ho, he, Instr.next, getObj, Sem.run, hblk, hp]
   try rfl
  ·refine .tup _ _ rfl fun i v c hv hc => ?_
   match i with
   | 0 => simp at hv hc; subst hv hc; exact .bool _
   | i + 1 => simp at hv
end Go.Proofs.YtodfkdnkgedgeaaT
