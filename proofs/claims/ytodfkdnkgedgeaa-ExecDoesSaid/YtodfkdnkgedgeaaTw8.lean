/- Walks over the program's functions, on values without memory, and what they come to. No condition. -/
import Derived.Laws.StructEq
import Derived.ChangeKeysEq
import Derived.Test.YtodfkdnkgedgeaaTw7
import Derived.Laws.Strings
import Derived.Laws.Slices
import Derived.WalkSpells
set_option linter.unusedVariables false
set_option linter.unusedSimpArgs false
namespace Go.Proofs.YtodfkdnkgedgeaaT
open Go Go.RowKit
variable {cx : Cx} {Im : Nat → Prop} {M : Nat → Option Value} {st : St} {a : Act} {w : World} {P : Program} {K : St → Prop} {Q : Exit → Act → World → Prop}
theorem op_not (h : FRx cx Im M st a w) {o : Oper} {t : TypeId} {x : Operand} (ho : o.op = .unOp .not t x) {b : Bool} (hx : ev st x = .bool b) (hk : K (Go.Proofs.YtodfkdnkgedgeaaT.put st o.dst (.bool !b))) : o.wp P a w (Kx cx K) Q := by
 have := R_bool (hx ▸ ev_sound h x)
 exact wp_val (v := .bool !b) (w' := w) (by simp [execOp, ho, this, Op.unary]) (Kx.mk (h.put (.bool _) _) hk)
theorem op_neg (h : FRx cx Im M st a w) {o : Oper} {t : TypeId} {x : Operand} (ho : o.op = .unOp .neg t x) {k : IntKind} {n : Int} (hx : ev st x = .int k n) (hk : K (Go.Proofs.YtodfkdnkgedgeaaT.put st o.dst (.int k (k.wrap (0 - n))))) : o.wp P a w (Kx cx K) Q := by
 have := R_int (hx ▸ ev_sound h x)
 exact wp_val (v := .int k (k.wrap (0 - n))) (w' := w) (by simp [execOp, ho, this, Op.unary, Op.intArith]) (Kx.mk (h.put (.int _ _) _) hk)
theorem op_conv_int (h : FRx cx Im M st a w) {o : Oper} {s t : TypeId} {x : Operand} (ho : o.op = .convert s t x) {d : TypeDesc} {k j : IntKind} {n : Int} (h1 : P.underlying s = some d) (h2 : P.underlying t = some (.int k)) (hx : ev st x = .int j n) (hk : K (Go.Proofs.YtodfkdnkgedgeaaT.put st o.dst (.int k (k.wrap n)))) : o.wp P a w (Kx cx K) Q := by
 have := R_int (hx ▸ ev_sound h x)
 refine wp_val (v := .int k (k.wrap n)) (w' := w) ?_ (Kx.mk (h.put (.int _ _) _) hk)
 cases d <;> simp [execOp, ho, this, convert, run_underlying h1, run_underlying h2, Conv.intToInt]
theorem op_conv_str (h : FRx cx Im M st a w) {o : Oper} {s t : TypeId} {x : Operand} (ho : o.op = .convert s t x) {d : TypeDesc} {z : ByteArray} (h1 : P.underlying s = some d) (h2 : P.underlying t = some .string) (hx : ev st x = .str z) (hk : K (Go.Proofs.YtodfkdnkgedgeaaT.put st o.dst (.str z))) : o.wp P a w (Kx cx K) Q := by
 have := R_str (hx ▸ ev_sound h x)
 refine wp_val (v := .string z) (w' := w) ?_ (Kx.mk (h.put (.str _) _) hk)
 cases d <;> simp [execOp, ho, this, convert, run_underlying h1, run_underlying h2]
theorem bytes_eq (x y : ByteArray) : (x.toList == y.toList) = decide (x = y) := by
 rw [Bool.eq_iff_iff]
 simp only [beq_iff_eq, decide_eq_true_eq]
 constructor
 ·intro h
  rw [ByteArray.toList_eq, ByteArray.toList_eq] at h
  cases x; cases y
  congr
  exact Array.ext' h
 ·intro h; rw [h]
theorem elems_len (h : FRx cx Im M st a w) {v : Value} {x : AV} (hr : R Im w M v x) {es : List (List AV)} (he : elems st.heap x = some es) : ∃ o c, v = .slice o es.length c ∧ (0 < es.length → ∃ ad, o = some ad) ∧ (x = .nils → o = none) := by
 unfold elems at he
 split at he
 ·cases he
  have := R_nils hr
  exact ⟨none, 0, this, fun h => by simp at h, fun _ => rfl⟩
 ·cases he
  obtain ⟨o, c, ad, sz, cs, rfl, h1, h2, h3, h4, _⟩ := R_sl hr
  exact ⟨o, c, rfl, fun h => ⟨ad, (h4 h).1⟩, fun h => by cases h⟩
 ·rename_i id
  obtain ⟨o, n, c, rfl, hm⟩ := R_bsl hr
  split at he
  ·rename_i e sz es' hid
   cases he
   obtain ⟨v', xs, h1, h2, h3⟩ := h.ob id _ hid
   rw [hm] at h1
   cases h1
   rcases owns_block h2 with ⟨he, h0, _⟩ | ⟨g, c', he, _⟩ <;> cases he
   ·exact ⟨none, 0, by rw [h0], fun h => by omega, fun h => by cases h⟩
   ·exact ⟨_, _, rfl, fun _ => ⟨_, rfl⟩, fun h => by cases h⟩
  ·rename_i es' hid
   cases he
   obtain ⟨v', h1, h2⟩ := h.ob id _ hid
   rw [hm] at h1
   cases h1
   obtain ⟨o', c', ad, sz, cs, he, h1, h2, h3, h4, _⟩ := R_sl h2
   simp only [Value.slice.injEq] at he
   obtain ⟨rfl, rfl, rfl⟩ := he
   exact ⟨_, _, rfl, fun h => ⟨ad, (h4 h).1⟩, fun h => by cases h⟩
  ·cases he
 ·cases he
theorem equal_bool {t : TypeId} (hu : P.underlying t = some .bool) (m n : Bool) : (Op.equal t (.bool m) (.bool n)).run P w = .ok (m == n) w := by
 unfold Op.equal
 rw [show Op.maxDepth = 9999 + 1 from rfl]
 unfold Op.equalIn
 simp only [Sem.run_bind, run_underlying hu, Result.andThen_ok, Sem.run_pure]
theorem equal_slice_nil {t e : TypeId} (hu : P.underlying t = some (.slice e)) (o : Option Addr) (n c : Nat) : (Op.equal t (.slice o n c) (.slice none 0 0)).run P w = .ok o.isNone w := by
 unfold Op.equal
 rw [show Op.maxDepth = 9999 + 1 from rfl]
 unfold Op.equalIn
 cases o <;> simp only [Sem.run_bind, run_underlying hu, Result.andThen_ok, Sem.run_pure] <;> rfl
theorem equal_ptr_nil {t e : TypeId} (hu : P.underlying t = some (.pointer e)) (o : Option Addr) : (Op.equal t (.pointer o) (.pointer none)).run P w = .ok o.isNone w := by
 unfold Op.equal
 rw [show Op.maxDepth = 9999 + 1 from rfl]
 unfold Op.equalIn
 cases o <;> simp only [Sem.run_bind, run_underlying hu, Result.andThen_ok, Sem.run_pure] <;> rfl
theorem R_nilq {Im : Nat → Prop} {M : Nat → Option Value} {v : Value} {x : AV} {b : Bool} (h : R Im w M v x) (hb : AV.nilq x = some b) : ∃ o, v = .pointer o ∧ o.isNone = b := by
 cases h <;> simp only [AV.nilq, Option.some.injEq, reduceCtorEq] at hb <;> subst hb <;> exact ⟨_, rfl, rfl⟩
theorem exec_bin {op : BinOp} {t ty : TypeId} {x y : Operand} {v : Value} (hg : (eqGuard op t x y (a.eval x) (a.eval y)).run P w = .ok () w) (hb : (binOp op t (a.eval x) (a.eval y)).run P w = .ok v w) :
  (execOp a.eval { dst := none, op := .binOp op t x y ty, type := 0, pos := "", after := #[], guard := none }).run P w = .ok (.value v) w := by
 simp only [execOp, Sem.run_bind, hg, Result.andThen_ok, hb, Sem.run_pure]
section
variable {P : Program} {w : World} {Im : Nat → Prop} {M : Nat → Option Value}
theorem agg_get {vs : Array Value} {cs : List AV} (h : R Im w M (.agg vs) (.agg cs)) {o : Nat} {k : IntKind} {m : Int} (hg : cs.getD o .junk = .int k m) : vs[o]? = some (.int k m) := by
 cases h with
 | agg _ _ hs ho hr =>
  rcases Nat.lt_or_ge o cs.length with hl | hl
  ·rw [List.getD_eq_getElem?_getD, List.getElem?_eq_getElem hl] at hg
   simp only [Option.getD_some] at hg
   have hv := Array.getElem?_eq_getElem (xs := vs) (i := o) (by omega)
   have := hr o _ _ hv (List.getElem?_eq_getElem hl)
   rw [hg] at this
   rw [hv, R_int this]
  ·rw [List.getD_eq_getElem?_getD, List.getElem?_eq_none hl] at hg; cases hg
theorem agg_getb {vs : Array Value} {cs : List AV} (h : R Im w M (.agg vs) (.agg cs)) {o : Nat} {m : Bool} (hg : cs.getD o .junk = .bool m) : vs[o]? = some (.bool m) := by
 cases h with
 | agg _ _ hs ho hr =>
  rcases Nat.lt_or_ge o cs.length with hl | hl
  ·rw [List.getD_eq_getElem?_getD, List.getElem?_eq_getElem hl] at hg
   simp only [Option.getD_some] at hg
   have hv := Array.getElem?_eq_getElem (xs := vs) (i := o) (by omega)
   have := hr o _ _ hv (List.getElem?_eq_getElem hl)
   rw [hg] at this
   rw [hv, R_bool this]
  ·rw [List.getD_eq_getElem?_getD, List.getElem?_eq_none hl] at hg; cases hg
theorem eqv_run {vs us : Array Value} {a b : List AV} (ha : R Im w M (.agg vs) (.agg a)) (hb : R Im w M (.agg us) (.agg b)) (d : Nat) : ∀ (fs : List Field) (r : Bool), (fs.all fun f => f.name != "_" && P.plainKey f.type && (match P.underlying f.type with | some (.int _) => true | some .bool => true | _ => false)) = true → eqv (fs.map fun f => (f.offset, isB P f.type)) a b = some r → (Op.eqFields (d + 1) vs us fs).run P w = .ok r w
 | [], r, _, h => by simp only [List.map_nil, eqv, Option.some.injEq] at h; subst h; simp [Op.eqFields]
 | f :: fs, r, hf, h => by
  rw [List.all_cons, Bool.and_eq_true, Bool.and_eq_true, Bool.and_eq_true] at hf
  obtain ⟨⟨⟨h1, h2⟩, h3⟩, h4⟩ := hf
  have h1 : f.name ≠ "_" := by simpa using h1
  simp only [List.map_cons] at h
  by_cases hbt : P.underlying f.type = some .bool
  ·rw [show isB P f.type = true by unfold isB; rw [hbt]] at h
   simp only [eqv] at h
   split at h
   ·rename_i m n hm hn
    obtain ⟨q, hq, rfl⟩ := Option.map_eq_some_iff.1 h
    have ih := eqv_run ha hb d fs q h4 hq
    simp only [Op.eqFields, h1, ne_eq, not_false_eq_true, if_true, Sem.run_bind, run_part_plain w h2 (agg_getb ha hm), run_part_plain w h2 (agg_getb hb hn), Result.andThen_ok, run_equalIn_bool w d f.type m n hbt]
    by_cases he : m = n
    ·simp [he, ih]
    ·simp [he]
   ·cases h
  ·rw [show isB P f.type = false by unfold isB; split <;> first | rfl | (rename_i e; exact absurd e hbt)] at h
   simp only [eqv] at h
   split at h
   ·rename_i k m k' n hm hn
    split at h
    ·rename_i hk
     subst hk
     obtain ⟨q, hq, rfl⟩ := Option.map_eq_some_iff.1 h
     have ih := eqv_run ha hb d fs q h4 hq
     split at h3
     ·rename_i kk hu
      simp only [Op.eqFields, h1, ne_eq, not_false_eq_true, if_true, Sem.run_bind, run_part_plain w h2 (agg_get ha hm), run_part_plain w h2 (agg_get hb hn), Result.andThen_ok, run_equalIn_int w d f.type k kk m n hu]
      by_cases he : m = n
      ·simp [he, ih]
      ·simp [he]
     ·rename_i hu; exact absurd hu hbt
     ·cases h3
    ·cases h
   ·cases h
theorem eqL_run {t : TypeId} {vs us : Array Value} {a b : List AV} (ha : R Im w M (.agg vs) (.agg a)) (hb : R Im w M (.agg us) (.agg b)) {l : List (Nat × Bool)} {r : Bool} (hl : eqL P t = some l) (hr : eqv l a b = some r) :
  P.eqGuardType P.depth t = false ∧ (Op.equalIn 10000 t (.agg vs) (.agg us)).run P w = .ok r w := by
 unfold eqL at hl
 split at hl
 ·rename_i fs hu
  split at hl
  ·rename_i hc
   rw [Bool.and_eq_true, Bool.and_eq_true] at hc
   obtain ⟨⟨h1, h2⟩, h3⟩ := hc
   cases hl
   have hf : P.fieldsOf t = fs := by unfold Program.fieldsOf; rw [hu]
   refine ⟨by simpa using h3, ?_⟩
   rw [show (10000 : Nat) = 9998 + 1 + 1 from rfl, run_equalIn_struct w _ t vs us (by rw [hf]; exact hu) (by simpa using h2), hf]
   exact eqv_run ha hb 9998 fs.toList r h1 hr
  ·cases hl
 ·cases hl
end
theorem vBin_sound (h : FRx cx Im M st a w) {op : BinOp} {t ty : TypeId} {x y : Operand} {N : AV → Prop} (hb : vBin P op t st (ev st x) (ev st y) N) : ∃ v r, (execOp a.eval { dst := none, op := .binOp op t x y ty, type := 0, pos := "", after := #[], guard := none }).run P w = .ok (.value v) w ∧ R Im w M v r ∧ N r := by
 have hrx := ev_sound h x
 have hry := ev_sound h y
 generalize ev st x = ax at hb hrx
 generalize ev st y = ay at hb hry
 unfold vBin at hb
 split at hb
 ·rename_i k m k' n
  have e1 := R_int hrx
  have e2 := R_int hry
  have hg : ∀ op, (eqGuard op t x y (.int k m) (.int k' n)).run P w = .ok () w := by intro op; unfold eqGuard; cases op <;> simp
  split at hb
  ·obtain ⟨h0, hN⟩ := hb
   exact ⟨_, _, by simp [execOp, e1, e2, hg, binOp, Op.shift, show ¬ n < 0 by omega], .int _ _, hN⟩
  ·obtain ⟨h0, hN⟩ := hb
   exact ⟨_, _, by simp [execOp, e1, e2, hg, binOp, Op.shift, show ¬ n < 0 by omega], .int _ _, hN⟩
  ·obtain ⟨rfl, hN⟩ := hb
   exact ⟨_, _, by simp [execOp, e1, e2, hg, binOp, Op.intArith], .int _ _, hN⟩
  ·obtain ⟨rfl, hN⟩ := hb
   exact ⟨_, _, by simp [execOp, e1, e2, hg, binOp, Op.intArith], .int _ _, hN⟩
  ·obtain ⟨rfl, hN⟩ := hb
   exact ⟨_, _, by simp [execOp, e1, e2, hg, binOp, Op.intArith], .int _ _, hN⟩
  ·obtain ⟨rfl, h0, hN⟩ := hb
   exact ⟨_, _, by simp [execOp, e1, e2, hg, binOp, Op.intDiv, h0], .int _ _, hN⟩
  ·obtain ⟨rfl, h0, hN⟩ := hb
   exact ⟨_, _, by simp [execOp, e1, e2, hg, binOp, Op.intDiv, h0], .int _ _, hN⟩
  ·obtain ⟨rfl, hN⟩ := hb
   exact ⟨.int k (k.wrap (BitVec.ofInt k.bits m &&& BitVec.ofInt k.bits n).toNat), _, by simp [execOp, e1, e2, hg, binOp, Op.intBits], .int _ _, hN⟩
  ·obtain ⟨rfl, hN⟩ := hb
   exact ⟨.int k (k.wrap (BitVec.ofInt k.bits m ||| BitVec.ofInt k.bits n).toNat), _, by simp [execOp, e1, e2, hg, binOp, Op.intBits], .int _ _, hN⟩
  ·obtain ⟨rfl, hN⟩ := hb
   exact ⟨.int k (k.wrap (BitVec.ofInt k.bits m ^^^ BitVec.ofInt k.bits n).toNat), _, by simp [execOp, e1, e2, hg, binOp, Op.intBits], .int _ _, hN⟩
  ·obtain ⟨rfl, hN⟩ := hb
   exact ⟨.int k (k.wrap (BitVec.ofInt k.bits m &&& ~~~ (BitVec.ofInt k.bits n)).toNat), _, by simp [execOp, e1, e2, hg, binOp, Op.intBits], .int _ _, hN⟩
  ·obtain ⟨rfl, hN⟩ := hb
   exact ⟨.bool (decide (m = n)), _, by simp [execOp, e1, e2, hg, binOp, Op.intCmp]; by_cases h : m = n <;> simp [h], .bool _, hN⟩
  ·obtain ⟨rfl, hN⟩ := hb
   exact ⟨.bool (!decide (m = n)), _, by simp [execOp, e1, e2, hg, binOp, Op.intCmp]; by_cases h : m = n <;> simp [h], .bool _, hN⟩
  ·obtain ⟨rfl, hN⟩ := hb
   exact ⟨_, _, by simp [execOp, e1, e2, hg, binOp, Op.intCmp], .bool _, hN⟩
  ·obtain ⟨rfl, hN⟩ := hb
   exact ⟨_, _, by simp [execOp, e1, e2, hg, binOp, Op.intCmp], .bool _, hN⟩
  ·obtain ⟨rfl, hN⟩ := hb
   exact ⟨_, _, by simp [execOp, e1, e2, hg, binOp, Op.intCmp], .bool _, hN⟩
  ·obtain ⟨rfl, hN⟩ := hb
   exact ⟨_, _, by simp [execOp, e1, e2, hg, binOp, Op.intCmp], .bool _, hN⟩
 ·rename_i m n
  have e1 := R_bool hrx
  have e2 := R_bool hry
  split at hb
  ·rename_i hu
   refine ⟨.bool (m == n), _, exec_bin (by rw [e1, e2]; rfl) ?_, .bool _, hb⟩
   rw [e1, e2, show binOp .eql t (.bool m) (.bool n) = (do pure (Value.bool (← Op.equal t (.bool m) (.bool n)))) from rfl]
   simp only [Sem.run_bind, equal_bool hu, Result.andThen_ok, Sem.run_pure]
  ·rename_i hu
   refine ⟨.bool (m != n), _, exec_bin (by rw [e1, e2]; rfl) ?_, .bool _, hb⟩
   rw [e1, e2, show binOp .neq t (.bool m) (.bool n) = (do pure (Value.bool (!(← Op.equal t (.bool m) (.bool n))))) from rfl]
   simp only [Sem.run_bind, equal_bool hu, Result.andThen_ok, Sem.run_pure]
   rfl
  ·exact hb.elim
 ·rename_i m n
  have e1 := R_str hrx
  have e2 := R_str hry
  split at hb
  ·obtain ⟨h0, hN⟩ := hb
   have h1 : ¬ (9223372036854775807 < (m.size : Int) + (n.size : Int)) := by unfold lim at h0; omega
   exact ⟨.string (m ++ n), _, by simp [execOp, e1, e2, eqGuard, binOp, Op.stringOp, h1], .str _, hN⟩
  ·exact ⟨.bool (decide (m = n)), _, by simp only [execOp, e1, e2, eqGuard, binOp, Op.stringOp, bytes_eq]; simp, .bool _, hb⟩
  ·exact ⟨.bool (!decide (m = n)), _, by simp only [execOp, e1, e2, eqGuard, binOp, Op.stringOp, bytes_eq]; simp, .bool _, hb⟩
  ·exact hb.elim
 ·rename_i aa bb
  obtain ⟨vs, e1⟩ : ∃ vs, a.eval x = .agg vs := by
   generalize a.eval x = vx at hrx
   cases hrx with | agg vs _ _ _ _ => exact ⟨vs, rfl⟩
  obtain ⟨us, e2⟩ : ∃ us, a.eval y = .agg us := by
   generalize a.eval y = vy at hry
   cases hry with | agg us _ _ _ _ => exact ⟨us, rfl⟩
  rw [e1] at hrx
  rw [e2] at hry
  split at hb
  ·rename_i r hr
   obtain ⟨l, hl, hv⟩ := Option.bind_eq_some_iff.1 hr
   obtain ⟨k1, k2⟩ := eqL_run hrx hry hl hv
   exact ⟨.bool r, _, exec_bin (by rw [e1, e2]; exact run_eqGuard_agg w _ t x y vs us k1) (by rw [e1, e2, run_eql_struct, k2]; rfl), .bool _, hb⟩
  ·rename_i r hr
   obtain ⟨l, hl, hv⟩ := Option.bind_eq_some_iff.1 hr
   obtain ⟨k1, k2⟩ := eqL_run hrx hry hl hv
   exact ⟨.bool (!r), _, exec_bin (by rw [e1, e2]; exact run_eqGuard_agg w _ t x y vs us k1) (by rw [e1, e2, run_neq_struct, k2]; rfl), .bool _, hb⟩
  ·exact hb.elim
 ·have e2 := R_nils hry
  split at hb
  ·rename_i e es he hes
   obtain ⟨o, c, e1, h1, h2⟩ := elems_len h hrx hes
   have hu := elemOf_some he
   have hrun : (execOp a.eval { dst := none, op := .binOp .eql t x y ty, type := 0, pos := "", after := #[], guard := none }).run P w = .ok (.value (.bool o.isNone)) w := by
    refine exec_bin (by rw [e1, e2]; rfl) ?_
    rw [e1, e2, show binOp .eql t (.slice o es.length c) (.slice none 0 0) = (do pure (Value.bool (← Op.equal t (.slice o es.length c) (.slice none 0 0)))) from rfl]
    simp only [Sem.run_bind, equal_slice_nil hu, Result.andThen_ok, Sem.run_pure]
   refine ⟨_, .bool o.isNone, hrun, .bool _, ?_⟩
   by_cases hn : es = []
   ·rw [if_pos hn] at hb
    exact hb _ (fun hx => by rw [h2 hx]; rfl)
   ·rw [if_neg hn] at hb
    obtain ⟨ad, rfl⟩ := h1 (List.length_pos_iff.2 hn)
    exact hb
  ·rename_i e es he hes
   obtain ⟨o, c, e1, h1, h2⟩ := elems_len h hrx hes
   have hu := elemOf_some he
   have hrun : (execOp a.eval { dst := none, op := .binOp .neq t x y ty, type := 0, pos := "", after := #[], guard := none }).run P w = .ok (.value (.bool !o.isNone)) w := by
    refine exec_bin (by rw [e1, e2]; rfl) ?_
    rw [e1, e2, show binOp .neq t (.slice o es.length c) (.slice none 0 0) = (do pure (Value.bool (!(← Op.equal t (.slice o es.length c) (.slice none 0 0))))) from rfl]
    simp only [Sem.run_bind, equal_slice_nil hu, Result.andThen_ok, Sem.run_pure]
   refine ⟨_, .bool !o.isNone, hrun, .bool _, ?_⟩
   by_cases hn : es = []
   ·rw [if_pos hn] at hb
    exact hb _ (fun hx => by rw [h2 hx]; rfl)
   ·rw [if_neg hn] at hb
    obtain ⟨ad, rfl⟩ := h1 (List.length_pos_iff.2 hn)
    exact hb
  ·exact hb.elim
 ·obtain ⟨hp, hb⟩ := hb
  have e2 : a.eval y = .pointer none := by
   generalize a.eval y = vy at hry
   cases hry; rfl
  obtain ⟨e, hu⟩ : ∃ e, P.underlying t = some (.pointer e) := by
   unfold isPtr at hp; split at hp
   ·exact ⟨_, by assumption⟩
   ·cases hp
  split at hb
  ·rename_i b hq
   obtain ⟨o, e1, h1⟩ := R_nilq hrx hq
   refine ⟨_, .bool b, exec_bin (v := .bool b) (by rw [e1, e2]; rfl) ?_, .bool _, hb⟩
   rw [e1, e2, show binOp .eql t (.pointer o) (.pointer none) = (do pure (Value.bool (← Op.equal t (.pointer o) (.pointer none)))) from rfl]
   simp only [Sem.run_bind, equal_ptr_nil hu, Result.andThen_ok, Sem.run_pure, h1]
  ·rename_i b hq
   obtain ⟨o, e1, h1⟩ := R_nilq hrx hq
   refine ⟨_, .bool (!b), exec_bin (v := .bool (!b)) (by rw [e1, e2]; rfl) ?_, .bool _, hb⟩
   rw [e1, e2, show binOp .neq t (.pointer o) (.pointer none) = (do pure (Value.bool (!(← Op.equal t (.pointer o) (.pointer none))))) from rfl]
   simp only [Sem.run_bind, equal_ptr_nil hu, Result.andThen_ok, Sem.run_pure, h1]
  ·exact hb.elim
 ·exact hb.elim
theorem op_binOp (h : FRx cx Im M st a w) {o : Oper} {op : BinOp} {t ty : TypeId} {x y : Operand} (ho : o.op = .binOp op t x y ty) (hb : vBin P op t st (ev st x) (ev st y) fun r => K (Go.Proofs.YtodfkdnkgedgeaaT.put st o.dst r)) : o.wp P a w (Kx cx K) Q := by
 obtain ⟨v, r, h1, h2, h3⟩ := vBin_sound (ty := ty) h hb
 refine wp_val (v := v) (w' := w) ?_ (Kx.mk (h.put h2 _) h3)
 have : execOp a.eval o = execOp a.eval { dst := none, op := .binOp op t x y ty, type := 0, pos := "", after := #[], guard := none } := by unfold execOp; rw [ho]
 rw [this, h1]
end Go.Proofs.YtodfkdnkgedgeaaT
