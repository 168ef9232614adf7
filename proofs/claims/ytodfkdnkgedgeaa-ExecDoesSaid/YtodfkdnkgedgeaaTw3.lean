/- Walks over the program's functions, on values without memory, and what they come to. No condition. -/
import Derived.Test.YtodfkdnkgedgeaaTw2
set_option linter.unusedVariables false
set_option linter.unusedSimpArgs false
namespace Go.Proofs.YtodfkdnkgedgeaaT
open Go
variable {cx : Cx} {Im : Nat → Prop} {M : Nat → Option Value} {st : St} {a : Act} {w : World} {P : Program}
theorem R.world {w' : World} {v : Value} {x : AV} (h : R Im w M v x) (hh : w'.heap = w.heap) : R Im w' M v x := h.mono (fun _ h => h) (fun _ _ => by rw [hh]) (fun _ _ h => h)
theorem R.im {Im' : Nat → Prop} {v : Value} {x : AV} (h : R Im w M v x) (hI : ∀ b, Im b → Im' b) : R Im' w M v x := h.mono hI (fun _ _ => rfl) (fun _ _ h => h)
theorem R.pure0 {v : Value} {x : AV} (h : R Im w (fun _ => none) v x) : R Im w M v x := h.mono (fun _ h => h) (fun _ _ => rfl) (fun _ _ h => by cases h)
theorem Chunks.mono {Im' : Nat → Prop} {w' : World} {sz : Nat} {xs : List Value} {es : List (List AV)} (h : Chunks Im w sz xs es) (hI : ∀ b, Im b → Im' b) (hw : ∀ b, Im b → w'.heap[b]? = w.heap[b]?) : Chunks Im' w' sz xs es :=
 ⟨h.1, h.2.1, fun i x j y hi hj => let ⟨u, hu, hr⟩ := h.2.2 i x j y hi hj; ⟨u, hu, hr.mono hI hw (fun _ _ h => h)⟩⟩
theorem owns_block {v : Value} {e sz n : Nat} {xs : List Value} (h : w.ownsRow 0 e sz v n xs) : (v = .slice none 0 0 ∧ n = 0 ∧ v.ownBlock = none) ∨ ∃ g c, v = .slice (some ⟨g, 0, none⟩) n c ∧ v.ownBlock = some g ∧ n ≤ c ∧ c ≤ maxLen ∧ g < w.heap.size := by
 rcases h.2 with ⟨rfl, rfl⟩ | ⟨g, cap, cur, rfl, _, hg, h1, h2, _⟩
 ·exact .inl ⟨rfl, rfl, rfl⟩
 ·exact .inr ⟨g, cap, rfl, rfl, h1, h2, (Array.getElem?_eq_some_iff.1 hg).1⟩
theorem owns_world {w' : World} {v : Value} {e sz n : Nat} {xs : List Value} (h : w.ownsRow 0 e sz v n xs) (hb : ∀ g, v.ownBlock = some g → w'.heap[g]? = w.heap[g]?) : w'.ownsRow 0 e sz v n xs := by
 refine ⟨h.1, ?_⟩
 rcases h.2 with hn | ⟨g, cap, cur, rfl, hb0, hg, rest⟩
 ·exact .inl hn
 ·exact .inr ⟨g, cap, cur, rfl, hb0, by rw [hb g rfl]; exact hg, rest⟩
theorem RO.mono {Im' : Nat → Prop} {w' : World} {M' : Nat → Option Value} {id : Nat} {o : HO} (h : RO Im w M id o) (hI : ∀ b, Im b → Im' b) (hw : ∀ b, Im b → w'.heap[b]? = w.heap[b]?)
  (hM : ∀ i u, M i = some u → M' i = some u) (hid : M' id = M id) (hb : (∀ b cs, o = .box cs → M id = some (.pointer (some ⟨b, 0, none⟩)) → w'.heap[b]? = w.heap[b]?) ∧ (∀ e sz es v g, o = .arr e sz es → M id = some v → v.ownBlock = some g → w'.heap[g]? = w.heap[g]?) ∧ (∀ s p b, o = .iter s p → M id = some (.pointer (some ⟨b, 0, none⟩)) → w'.heap[b]? = w.heap[b]?)) : RO Im' w' M' id o := by
 cases o with
 | un => exact hid.trans h
 | dead => exact trivial
 | box cs =>
  obtain ⟨b, vs, ty, h1, h2, h3, h4, h5⟩ := h
  exact ⟨b, vs, ty, hid.trans h1, by rw [hb.1 b cs rfl h1]; exact h2, h3, h4, fun i v c hv hc => (h5 i v c hv hc).mono hI hw hM⟩
 | ibox cs =>
  obtain ⟨b, h1, h2⟩ := h
  exact ⟨b, hid.trans h1, h2.mono hI hw (fun _ _ h => h)⟩
 | arr e sz es =>
  obtain ⟨v, xs, h1, h2, h3⟩ := h
  exact ⟨v, xs, hid.trans h1, owns_world h2 (fun g hg => hb.2.1 e sz es v g rfl h1 hg), h3.mono hI hw⟩
 | imm es =>
  obtain ⟨v, h1, h2⟩ := h
  exact ⟨v, hid.trans h1, h2.mono hI hw (fun _ _ h => h)⟩
 | iter s p =>
  obtain ⟨b, h1, h2⟩ := h
  exact ⟨b, hid.trans h1, by rw [hb.2.2 s p b rfl h1]; exact h2⟩
theorem ownB_iter {h : List HO} {id b p : Nat} {s : ByteArray} (ho : h[id]? = some (.iter s p)) (hm : M id = some (.pointer (some ⟨b, 0, none⟩))) : ownB h M id = some b := by unfold ownB; rw [ho, hm]
theorem ownB_box {h : List HO} {id b : Nat} {cs : List AV} (ho : h[id]? = some (.box cs)) (hm : M id = some (.pointer (some ⟨b, 0, none⟩))) : ownB h M id = some b := by unfold ownB; rw [ho, hm]
theorem ownB_arr {h : List HO} {id e sz : Nat} {es : List (List AV)} {v : Value} (ho : h[id]? = some (.arr e sz es)) (hm : M id = some v) : ownB h M id = v.ownBlock := by unfold ownB; rw [ho, hm]
theorem FRx.step (h : FRx cx Im M st a w) {w' : World} (hk : Keeps cx.S cx.w0 w') (hs : w.heap.size ≤ w'.heap.size) (hI : ∀ b, Im b → w'.heap[b]? = w.heap[b]?) (hO : ∀ i b, ownB st.heap M i = some b → w'.heap[b]? = w.heap[b]?) : FRx cx Im M st a w' where
 kp := hk
 im0 := h.im0
 im1 := h.im1
 imlt := fun b hb => Nat.lt_of_lt_of_le (h.imlt b hb) hs
 tl := h.tl
 tm := fun i x hx => let ⟨v, hv, hr⟩ := h.tm i x hx; ⟨v, hv, hr.mono (fun _ h => h) hI (fun _ _ h => h)⟩
 ob := fun i o ho => (h.ob i o ho).mono (fun _ h => h) hI (fun _ _ h => h) rfl ⟨fun b cs e hm => hO i b (ownB_box (e ▸ ho) hm), fun e sz es v g he hm hg => hO i g ((ownB_arr (he ▸ ho) hm).trans hg), fun s p b e hm => hO i b (ownB_iter (e ▸ ho) hm)⟩
 out := h.out
 own := h.own
 sep := fun i b hb => let ⟨h1, h2, h3⟩ := h.sep i b hb; ⟨h1, h2, Nat.lt_of_lt_of_le h3 hs⟩
 mm := h.mm
 df := h.df
theorem FRx.world (h : FRx cx Im M st a w) {w' : World} (hh : w'.heap = w.heap) (h1 : w'.os = w.os) (h2 : w'.tape = w.tape) (h3 : w'.output = w.output) : FRx cx Im M st a w' :=
 h.step ⟨h1.trans h.kp.os, h2.trans h.kp.tape, h3.trans h.kp.output, by rw [hh]; exact h.kp.size, fun k hk hS => by rw [hh]; exact h.kp.block k hk hS⟩ (by rw [hh]; exact Nat.le_refl _) (fun _ _ => by rw [hh]) (fun _ _ _ => by rw [hh])
theorem FRx.drew (h : FRx cx Im M st a w) : FRx cx Im M st a { w with drawn := w.drawn + 1 } := h.world rfl rfl rfl rfl
theorem FRx.put (h : FRx cx Im M st a w) {v : Value} {x : AV} (hv : R Im w M v x) (d : Option Nat) : FRx cx Im M (Go.Proofs.YtodfkdnkgedgeaaT.put st d x) (a.put d v) w := by
 cases d with
 | none => exact h
 | some t =>
  refine ⟨h.kp, h.im0, h.im1, h.imlt, ?_, fun i y hy => ?_, h.ob, h.out, h.own, h.sep, h.mm, h.df⟩
  ·simp only [Go.Proofs.YtodfkdnkgedgeaaT.put, Act.put, Array.size_setIfInBounds, List.length_set]; exact h.tl
  ·simp only [Go.Proofs.YtodfkdnkgedgeaaT.put, Act.put] at hy ⊢
   by_cases hit : t = i
   ·subst hit
    have hlt : t < st.tmps.length := by have := (List.getElem?_eq_some_iff.1 hy).1; simpa using this
    rw [List.getElem?_set_self hlt] at hy
    cases hy
    exact ⟨v, by rw [Array.getElem?_setIfInBounds_self_of_lt (by rw [h.tl]; exact hlt)], hv⟩
   ·rw [List.getElem?_set_ne hit] at hy
    rw [Array.getElem?_setIfInBounds_ne hit]
    exact h.tm i y hy
theorem R_ofLeaf (v : Value) : R Im w M v (ofLeaf v) := by
 unfold ofLeaf
 split
 ·exact .int _ _
 ·exact .bool _
 ·exact .str _
 ·exact .nils
 ·exact .nilp
 ·exact .nilf
 ·exact .junk _
theorem R_ofVal (v : Value) : R Im w M v (ofVal v) := by
 cases v with
 | agg cs =>
  simp only [ofVal]
  split
  ·rename_i ho
   refine .agg cs _ (by simp) (fun v hv => Array.all_eq_true_iff_forall_mem.1 ho v hv) (fun i v c hv hc => ?_)
   rw [List.getElem?_map, Array.getElem?_toList, hv] at hc
   simp only [Option.map_some, Option.some.injEq] at hc
   subst hc
   exact R_ofLeaf v
  ·exact .junk _
 | _ => exact R_ofLeaf _
theorem ev_sound (h : FRx cx Im M st a w) (x : Operand) : R Im w M (a.eval x) (ev st x) := by
 cases x with
 | tmp t =>
  simp only [ev, Act.eval]
  cases ht : st.tmps[t]? with
  | none => rw [List.getD_eq_getElem?_getD, ht]; exact .junk _
  | some y =>
   obtain ⟨v, hv, hr⟩ := h.tm t y ht
   rw [List.getD_eq_getElem?_getD, ht, Array.getD_eq_getD_getElem?, hv]
   exact hr
 | const v => exact R_ofVal v
 | func f => exact .fn f #[] [] rfl (fun i v c hv => by simp at hv)
 | global g => exact .junk _
theorem evs_sound (h : FRx cx Im M st a w) (xs : Array Operand) : (xs.map a.eval).size = (xs.toList.map (ev st)).length ∧ ∀ (i : Nat) v x, (xs.map a.eval)[i]? = some v → (xs.toList.map (ev st))[i]? = some x → R Im w M v x := by
 refine ⟨by simp, fun i v x hv hx => ?_⟩
 rw [Array.getElem?_map] at hv
 rw [List.getElem?_map, Array.getElem?_toList] at hx
 cases ho : xs[i]? with
 | none => rw [ho] at hv; cases hv
 | some o =>
  rw [ho] at hv hx
  cases hv; cases hx
  exact ev_sound h o
theorem leL_at : ∀ {a b : List AV}, leL a b → a.length = b.length ∧ ∀ (i : Nat) x y, a[i]? = some x → b[i]? = some y → le x y
 | [], [], _ => ⟨rfl, fun i x y h => by simp at h⟩
 | x :: a, y :: b, h => by
  simp only [leL] at h
  obtain ⟨h1, h2⟩ := leL_at h.2
  refine ⟨by simp [h1], fun i x' y' hx hy => ?_⟩
  cases i with
  | zero => simp at hx hy; subst hx; subst hy; exact h.1
  | succ i => exact h2 i x' y' (by simpa using hx) (by simpa using hy)
 | [], _ :: _, h => by simp [leL] at h
 | _ :: _, [], h => by simp [leL] at h
theorem R.le {v : Value} {x : AV} (h : R Im w M v x) : ∀ {y : AV}, le x y → R Im w M v y := by
 have hp : ∀ {vs : Array Value} {cs ds : List AV}, vs.size = cs.length → leL cs ds → vs.size = ds.length ∧ ∀ (i : Nat) v d, vs[i]? = some v → ds[i]? = some d → ∃ c, cs[i]? = some c ∧ Go.Proofs.YtodfkdnkgedgeaaT.le c d := by
  intro vs cs ds hs hl
  obtain ⟨h1, h2⟩ := leL_at hl
  refine ⟨hs.trans h1, fun i v d hv hd => ?_⟩
  have hi : i < cs.length := by have := (List.getElem?_eq_some_iff.1 hd).1; omega
  exact ⟨cs[i], List.getElem?_eq_getElem hi, h2 i _ d (List.getElem?_eq_getElem hi) hd⟩
 induction h with
 | int k n => intro y hy; cases y <;> simp [Go.Proofs.YtodfkdnkgedgeaaT.le] at hy; (obtain ⟨rfl, rfl⟩ := hy; exact .int _ _); exact .junk _
 | bool b => intro y hy; cases y <;> simp [Go.Proofs.YtodfkdnkgedgeaaT.le] at hy; (subst hy; exact .bool _); exact .junk _
 | str s => intro y hy; cases y <;> simp [Go.Proofs.YtodfkdnkgedgeaaT.le] at hy; (subst hy; exact .str _); exact .junk _
 | nils =>
  intro y hy
  cases y <;> simp [Go.Proofs.YtodfkdnkgedgeaaT.le] at hy
  ·exact .nils
  ·rename_i f es
   subst hy
   exact .sl none 0 f [] ⟨0, 0, none⟩ 0 (fun _ _ => .bool false) (Nat.le_refl _) (fun _ => rfl) (by unfold maxLen; omega) (fun h => by simp at h) (fun i x h => by simp at h) (fun i x j y h => by simp at h) (fun i x j y h => by simp at h) (fun i x j y h => by simp at h)
  ·exact .junk _
 | sl a c full es ad sz cs hc hf hm ha hl hr ho hv ih =>
  intro y hy
  cases y <;> simp [Go.Proofs.YtodfkdnkgedgeaaT.le] at hy
  ·obtain ⟨h1, rfl⟩ := hy
   exact .sl a c _ es ad sz cs hc (fun hg => hf (h1 hg)) hm ha hl hr ho hv
  ·exact .junk _
 | bsl id a n c h => intro y hy; cases y <;> simp [Go.Proofs.YtodfkdnkgedgeaaT.le] at hy; (subst hy; exact .bsl id a n c h); exact .junk _
 | nilp => intro y hy; cases y <;> simp [Go.Proofs.YtodfkdnkgedgeaaT.le] at hy; exact .nilp; exact .junk _
 | ptr id off b h => intro y hy; cases y <;> simp [Go.Proofs.YtodfkdnkgedgeaaT.le] at hy; (obtain ⟨rfl, rfl⟩ := hy; exact .ptr id off b h); exact .junk _
 | eptr id idx sz foff g n c h => intro y hy; cases y <;> simp [Go.Proofs.YtodfkdnkgedgeaaT.le] at hy; (obtain ⟨rfl, rfl, rfl, rfl⟩ := hy; exact .eptr id idx sz foff g n c h); exact .junk _
 | cptr ad cells cs hi hr ho hv ih => intro y hy; cases y <;> simp [Go.Proofs.YtodfkdnkgedgeaaT.le] at hy; (subst hy; exact .cptr ad cells cs hi hr ho hv); exact .junk _
 | nilf => intro y hy; cases y <;> simp [Go.Proofs.YtodfkdnkgedgeaaT.le] at hy; exact .nilf; exact .junk _
 | fn f vs cs hs h ih =>
  intro y hy
  cases y <;> simp [Go.Proofs.YtodfkdnkgedgeaaT.le] at hy
  ·obtain ⟨rfl, hy⟩ := hy
   obtain ⟨h1, h2⟩ := hp hs hy
   exact .fn _ vs _ h1 (fun i v d hv hd => let ⟨c, hc, hcd⟩ := h2 i v d hv hd; ih i v c hv hc hcd)
  ·exact .junk _
 | agg vs cs hs ho h ih =>
  intro y hy
  cases y <;> simp [Go.Proofs.YtodfkdnkgedgeaaT.le] at hy
  ·obtain ⟨h1, h2⟩ := hp hs hy
   exact .agg vs _ h1 ho (fun i v d hv hd => let ⟨c, hc, hcd⟩ := h2 i v d hv hd; ih i v c hv hc hcd)
  ·exact .junk _
 | tup vs cs hs h ih =>
  intro y hy
  cases y <;> simp [Go.Proofs.YtodfkdnkgedgeaaT.le] at hy
  ·obtain ⟨h1, h2⟩ := hp hs hy
   exact .tup vs _ h1 (fun i v d hv hd => let ⟨c, hc, hcd⟩ := h2 i v d hv hd; ih i v c hv hc hcd)
  ·exact .junk _
 | junk v => intro y hy; cases y <;> simp [Go.Proofs.YtodfkdnkgedgeaaT.le] at hy; exact .junk _
theorem R_cptr {v : Value} {cells : List AV} (h : R Im w M v (.cptr cells)) : ∃ (ad : Addr) (cs : Nat → Value), v = .pointer (some ad) ∧ Im ad.block ∧ (∀ (j : Nat) (y : AV), cells[j]? = some y → w.cell? (ad.add j) = some (cs j)) ∧
  (∀ (j : Nat) (y : AV), cells[j]? = some y → (cs j).oneCell' = true) ∧ ∀ (j : Nat) (y : AV), cells[j]? = some y → R Im w (fun _ => none) (cs j) y := by
 generalize hx : AV.cptr cells = x at h
 cases h <;> cases hx
 rename_i ad cs h1 h2 h3 h4
 exact ⟨ad, cs, rfl, h1, h2, h3, h4⟩
theorem R_sl {v : Value} {full : Bool} {es : List (List AV)} (h : R Im w M v (.sl full es)) : ∃ (o : Option Addr) (c : Nat) (ad : Addr) (sz : Nat) (cs : Nat → Nat → Value), v = .slice o es.length c ∧ es.length ≤ c ∧ (full = true → c = es.length) ∧ c ≤ maxLen ∧
  (0 < es.length → o = some ad ∧ Im ad.block) ∧ (∀ (i : Nat) (x : List AV), es[i]? = some x → x.length = sz) ∧ (∀ (i : Nat) (x : List AV) (j : Nat) (y : AV), es[i]? = some x → x[j]? = some y → w.cell? (ad.add (i * sz + j)) = some (cs i j)) ∧
  (∀ (i : Nat) (x : List AV) (j : Nat) (y : AV), es[i]? = some x → x[j]? = some y → (cs i j).oneCell' = true) ∧ ∀ (i : Nat) (x : List AV) (j : Nat) (y : AV), es[i]? = some x → x[j]? = some y → R Im w (fun _ => none) (cs i j) y := by
 generalize hx : AV.sl full es = x at h
 cases h <;> cases hx
 exact ⟨_, _, _, _, _, rfl, by assumption, by assumption, by assumption, by assumption, by assumption, by assumption, by assumption, by assumption⟩
theorem R_int {v : Value} {k : IntKind} {n : Int} (h : R Im w M v (.int k n)) : v = .int k n := by cases h; rfl
theorem R_bool {v : Value} {b : Bool} (h : R Im w M v (.bool b)) : v = .bool b := by cases h; rfl
theorem R_str {v : Value} {s : ByteArray} (h : R Im w M v (.str s)) : v = .string s := by cases h; rfl
theorem R_nils {v : Value} (h : R Im w M v .nils) : v = .slice none 0 0 := by cases h; rfl
theorem R_bsl {v : Value} {id : Nat} (h : R Im w M v (.bsl id)) : ∃ a n c, v = .slice a n c ∧ M id = some v := by
 generalize hx : AV.bsl id = x at h
 cases h <;> cases hx
 exact ⟨_, _, _, rfl, by assumption⟩
theorem R_ptr {v : Value} {id off : Nat} (h : R Im w M v (.ptr id off)) : ∃ b, v = .pointer (some ⟨b, off, none⟩) ∧ M id = some (.pointer (some ⟨b, 0, none⟩)) := by
 generalize hx : AV.ptr id off = x at h
 cases h <;> cases hx
 exact ⟨_, rfl, by assumption⟩
theorem R_eptr {v : Value} {id idx sz foff : Nat} (h : R Im w M v (.eptr id idx sz foff)) : ∃ g n c, v = .pointer (some ⟨g, idx * sz + foff, none⟩) ∧ M id = some (.slice (some ⟨g, 0, none⟩) n c) := by
 generalize hx : AV.eptr id idx sz foff = x at h
 cases h <;> cases hx
 exact ⟨_, _, _, rfl, by assumption⟩
theorem R_agg {v : Value} {cs : List AV} (h : R Im w M v (.agg cs)) : ∃ vs, v = .agg vs ∧ vs.size = cs.length ∧ (∀ v ∈ vs, v.oneCell' = true) ∧ ∀ (i : Nat) v c, vs[i]? = some v → cs[i]? = some c → R Im w M v c := by
 generalize hx : AV.agg cs = x at h
 cases h <;> cases hx
 exact ⟨_, rfl, by assumption, by assumption, by assumption⟩
theorem R_tup {v : Value} {cs : List AV} (h : R Im w M v (.tup cs)) : ∃ vs, v = .tuple vs ∧ vs.size = cs.length ∧ ∀ (i : Nat) v c, vs[i]? = some v → cs[i]? = some c → R Im w M v c := by
 generalize hx : AV.tup cs = x at h
 cases h <;> cases hx
 exact ⟨_, rfl, by assumption, by assumption⟩
theorem R_fn {v : Value} {f : FuncId} {cs : List AV} (h : R Im w M v (.fn f cs)) : ∃ vs, v = .func (.func f) #[] vs ∧ vs.size = cs.length ∧ ∀ (i : Nat) v c, vs[i]? = some v → cs[i]? = some c → R Im w M v c := by
 generalize hx : AV.fn f cs = x at h
 cases h <;> cases hx
 exact ⟨_, rfl, by assumption, by assumption⟩
theorem fix_get (h : List HO) (id j : Nat) : (fix h id)[j]? = if j = id then (match h[id]? with | some (.arr _ _ es) => some (.imm es) | o => o) else h[j]? := by
 unfold fix
 by_cases hj : j = id
 ·subst hj
  rw [if_pos rfl]
  split
  ·rename_i e sz es he
   rw [List.getElem?_set_self (List.getElem?_eq_some_iff.1 he).1, he]
  ·rename_i hne
   split
   ·rename_i e sz es he; exact absurd he (hne e sz es)
   ·rfl
 ·rw [if_neg hj]
  split
  ·rw [List.getElem?_set_ne (fun e => hj e.symm)]
  ·rfl
theorem fix_length (h : List HO) (id : Nat) : (fix h id).length = h.length := by unfold fix; split <;> simp
theorem ownB_fix {h : List HO} {id i b : Nat} (hb : ownB (fix h id) M i = some b) : ownB h M i = some b ∧ (i = id → ∀ e sz es, h[id]? ≠ some (.arr e sz es)) := by
 unfold ownB at hb ⊢
 rw [fix_get] at hb
 by_cases hi : i = id
 ·subst hi
  rw [if_pos rfl] at hb
  split at hb
  ·rename_i cs b' he _
   split at he
   ·cases he
   ·rename_i hne
    rename_i heq
    rw [he]; simp_all
  ·rename_i he _
   split at he
   ·cases he
   ·rename_i hne; exact absurd he (hne _ _ _)
  ·rename_i s p a he _
   split at he
   ·cases he
   ·rename_i hne
    rename_i heq
    rw [he]; simp_all
  ·cases hb
 ·rw [if_neg hi] at hb
  exact ⟨hb, fun e => absurd e hi⟩
theorem arr_value {e sz : Nat} {es : List (List AV)} {v : Value} {xs : List Value} {Im' : Nat → Prop} (ho : w.ownsRow 0 e sz v es.length xs) (hc : Chunks Im w sz xs es) (hI : ∀ b, Im b → Im' b) (hb : ∀ g, v.ownBlock = some g → Im' g) : R Im' w M v (.sl false es) := by
 rcases owns_block ho with ⟨rfl, h0, _⟩ | ⟨g, c, rfl, hg, h1, h2, _⟩
 ·have := List.eq_nil_of_length_eq_zero h0
  subst this
  exact .sl none 0 false [] ⟨0, 0, none⟩ 0 (fun _ _ => .bool false) (Nat.le_refl _) (fun h => by cases h) (by unfold maxLen; omega) (fun h => by simp at h) (fun i x h => by simp at h) (fun i x j y h => by simp at h) (fun i x j y h => by simp at h) (fun i x j y h => by simp at h)
 ·have hcell : ∀ (i : Nat) (x : List AV) (j : Nat) (y : AV), es[i]? = some x → x[j]? = some y → ∃ u, xs[i * sz + j]? = some u ∧ xs.getD (i * sz + j) (.bool false) = u ∧ R Im w (fun _ => none) u y := by
   intro i x j y hi hj
   obtain ⟨u, hu, hr⟩ := hc.2.2 i x j y hi hj
   exact ⟨u, hu, by rw [List.getD_eq_getElem?_getD, hu]; rfl, hr⟩
  refine .sl (some ⟨g, 0, none⟩) c false es ⟨g, 0, none⟩ sz (fun i j => xs.getD (i * sz + j) (.bool false)) h1 (fun h => by cases h) h2 (fun _ => ⟨rfl, hb g hg⟩) hc.1 (fun i x j y hi hj => ?_) (fun i x j y hi hj => ?_) (fun i x j y hi hj => ?_)
  ·obtain ⟨u, hu, h3, _⟩ := hcell i x j y hi hj
   rw [h3]
   exact ho.cells hg _ u hu
  ·obtain ⟨u, hu, h3, _⟩ := hcell i x j y hi hj
   rw [h3]
   exact hc.2.1 u (List.mem_of_getElem? hu)
  ·obtain ⟨u, hu, h3, hr⟩ := hcell i x j y hi hj
   rw [h3]
   exact hr.im hI
theorem fix_sound (h : FRx cx Im M st a w) (id : Nat) : ∃ Im', (∀ b, Im b → Im' b) ∧ (∀ b, Im' b → Im b ∨ ownB st.heap M id = some b) ∧ FRx cx Im' M { st with heap := fix st.heap id } a w ∧ (∀ e sz es b, st.heap[id]? = some (.arr e sz es) → ownB st.heap M id = some b → Im' b) := by
 cases hid : st.heap[id]? with
 | none =>
  have hf : fix st.heap id = st.heap := by unfold fix; rw [hid]
  exact ⟨Im, fun _ h => h, fun _ h => .inl h, by rw [hf]; exact h, fun _ _ _ _ he => by cases he⟩
 | some o =>
  by_cases harr : ∃ e sz es, o = .arr e sz es
  ·obtain ⟨e, sz, es, rfl⟩ := harr
   obtain ⟨v, xs, hm, hown, hch⟩ := h.ob id _ hid
   have hob := ownB_arr hid hm
   refine ⟨fun b => Im b ∨ ownB st.heap M id = some b, fun _ h => .inl h, fun _ h => h, ?_, fun _ _ _ b _ hb => .inr hb⟩
   have hI : ∀ b, Im b → Im b ∨ ownB st.heap M id = some b := fun _ h => .inl h
   refine ⟨h.kp, fun b hb => .inl (h.im0 b hb), ?_, ?_, h.tl, fun i x hx => let ⟨v, hv, hr⟩ := h.tm i x hx; ⟨v, hv, hr.im hI⟩, ?_, ?_, ?_, ?_, h.mm, h.df⟩
   ·rintro b (hb | hb)
    ·exact h.im1 b hb
    ·exact .inr (h.sep id b hb).2.1
   ·rintro b (hb | hb)
    ·exact h.imlt b hb
    ·exact (h.sep id b hb).2.2
   ·intro i o ho
    simp only at ho
    rw [fix_get] at ho
    by_cases hi : i = id
    ·subst hi
     rw [if_pos rfl, hid] at ho
     simp only [Option.some.injEq] at ho
     subst ho
     exact ⟨v, hm, arr_value hown hch hI (fun g hg => .inr (hob.trans hg))⟩
    ·rw [if_neg hi] at ho
     exact (h.ob i o ho).mono hI (fun _ _ => rfl) (fun _ _ h => h) rfl ⟨fun _ _ _ _ => rfl, fun _ _ _ _ _ _ _ _ => rfl, fun _ _ _ _ _ => rfl⟩
   ·intro i hi
    simp only [fix_length] at hi
    exact h.out i hi
   ·intro i j b hij hi hj
    exact h.own i j b hij (ownB_fix hi).1 (ownB_fix hj).1
   ·intro i b hb
    obtain ⟨h1, h2⟩ := ownB_fix hb
    obtain ⟨h3, h4, h5⟩ := h.sep i b h1
    refine ⟨?_, h4, h5⟩
    rintro (hb | hb)
    ·exact h3 hb
    ·by_cases hi : i = id
     ·exact h2 hi _ _ _ hid
     ·exact h.own i id b hi h1 hb
  ·have hf : fix st.heap id = st.heap := by
    unfold fix
    rw [hid]
    cases o with
    | arr e sz es => exact absurd ⟨e, sz, es, rfl⟩ harr
    | _ => rfl
   exact ⟨Im, fun _ h => h, fun _ h => .inl h, by rw [hf]; exact h, fun e sz es _ he => by cases he; exact absurd ⟨e, sz, es, rfl⟩ harr⟩
theorem fix_arr {h : List HO} {id j : Nat} {e sz : Nat} {es : List (List AV)} (hj : h[j]? = some (.arr e sz es)) (hne : j ≠ id) : (fix h id)[j]? = some (.arr e sz es) := by rw [fix_get, if_neg hne]; exact hj
theorem fixes_sound : ∀ (ids : List Nat) {Im : Nat → Prop} {st : St}, FRx cx Im M st a w → ∃ Im', (∀ b, Im b → Im' b) ∧ (∀ b, Im' b → Im b ∨ ∃ i, ownB st.heap M i = some b) ∧ FRx cx Im' M { st with heap := ids.foldl fix st.heap } a w ∧
  (∀ id ∈ ids, ∀ e sz es b, st.heap[id]? = some (.arr e sz es) → ownB st.heap M id = some b → Im' b)
 | [], Im, st, h => ⟨Im, fun _ h => h, fun _ h => .inl h, h, fun _ h => by cases h⟩
 | id :: ids, Im, st, h => by
  obtain ⟨I1, h1, h2, h3, h4⟩ := fix_sound h id
  obtain ⟨I2, k1, k2, k3, k4⟩ := fixes_sound ids h3
  refine ⟨I2, fun b hb => k1 b (h1 b hb), fun b hb => ?_, k3, ?_⟩
  ·rcases k2 b hb with hb | ⟨i, hb⟩
   ·rcases h2 b hb with hb | hb
    ·exact .inl hb
    ·exact .inr ⟨id, hb⟩
   ·exact .inr ⟨i, (ownB_fix hb).1⟩
  ·intro j hj e sz es b he hb
   by_cases hji : j = id
   ·subst hji
    exact k1 b (h4 e sz es b he hb)
   ·rcases List.mem_cons.1 hj with rfl | hj
    ·exact absurd rfl hji
    ·refine k4 j hj e sz es b (fix_arr he hji) ?_
     unfold ownB at hb ⊢
     simp only [fix_arr he hji]
     rw [he] at hb
     exact hb
theorem frz_sound (h : FRx cx Im M st a w) {Im' : Nat → Prop} (hI : ∀ b, Im b → Im' b) {v : Value} {x : AV} (hr : R Im w M v x) :
  (∀ id ∈ names x, ∀ e sz es b, st.heap[id]? = some (.arr e sz es) → ownB st.heap M id = some b → Im' b) → R Im' w (fun _ => none) v (frz st.heap x) := by
 have hp : ∀ {vs : Array Value} {cs : List AV}, vs.size = cs.length → (∀ (i : Nat) v c, vs[i]? = some v → cs[i]? = some c → (∀ id ∈ names c, ∀ e sz es b, st.heap[id]? = some (.arr e sz es) → ownB st.heap M id = some b → Im' b) → R Im' w (fun _ => none) v (frz st.heap c)) →
   (∀ id ∈ namesL cs, ∀ e sz es b, st.heap[id]? = some (.arr e sz es) → ownB st.heap M id = some b → Im' b) → vs.size = (frzL st.heap cs).length ∧ ∀ (i : Nat) v d, vs[i]? = some v → (frzL st.heap cs)[i]? = some d → R Im' w (fun _ => none) v d := by
  intro vs cs hs hih hn
  have hl : ∀ cs : List AV, (frzL st.heap cs).length = cs.length ∧ ∀ (i : Nat) d, (frzL st.heap cs)[i]? = some d → ∃ c, cs[i]? = some c ∧ d = frz st.heap c ∧ ∀ id ∈ names c, id ∈ namesL cs := by
   intro cs
   induction cs with
   | nil => exact ⟨rfl, fun i d h => by simp [frzL] at h⟩
   | cons c cs ih =>
    refine ⟨by simp [frzL, ih.1], fun i d hd => ?_⟩
    cases i with
    | zero =>
     simp only [frzL, List.getElem?_cons_zero, Option.some.injEq] at hd
     exact ⟨c, rfl, hd.symm, fun id hid => by simp only [namesL]; exact List.mem_append_left _ hid⟩
    | succ i =>
     simp only [frzL, List.getElem?_cons_succ] at hd
     obtain ⟨c', h1, h2, h3⟩ := ih.2 i d hd
     exact ⟨c', by simpa using h1, h2, fun id hid => by simp only [namesL]; exact List.mem_append_right _ (h3 id hid)⟩
  refine ⟨hs.trans (hl cs).1.symm, fun i v d hv hd => ?_⟩
  obtain ⟨c, h1, rfl, h3⟩ := (hl cs).2 i d hd
  exact hih i v c hv h1 (fun id hid => hn id (h3 id hid))
 induction hr with
 | int k n => intro _; exact .int k n
 | bool b => intro _; exact .bool b
 | str s => intro _; exact .str s
 | nils => intro _; exact .nils
 | sl a c full es ad sz cs hc hf hm ha hl hr ho hv ih =>
  intro _
  exact (R.sl (Im := Im) (w := w) (M := fun _ => none) a c full es ad sz cs hc hf hm ha hl hr ho hv).im hI
 | bsl id a n c hv =>
  intro hn
  simp only [frz]
  cases hid : st.heap[id]? with
  | none => exact .junk _
  | some o =>
   cases o with
   | arr e sz es =>
    obtain ⟨u, xs, hm, hown, hch⟩ := h.ob id _ hid
    rw [hv] at hm
    cases hm
    exact arr_value hown hch hI (fun g hg => hn id (by simp [names]) e sz es g hid ((ownB_arr hid hv).trans hg))
   | imm es =>
    obtain ⟨u, hm, hr⟩ := h.ob id _ hid
    rw [hv] at hm
    cases hm
    exact hr.im hI
   | _ => exact .junk _
 | nilp => intro _; exact .nilp
 | ptr id off b hb =>
  intro _
  simp only [frz]
  cases hid : st.heap[id]? with
  | none => exact .junk _
  | some o =>
   cases o with
   | ibox cs =>
    obtain ⟨b', hm, hr⟩ := h.ob id _ hid
    rw [hb] at hm
    cases hm
    obtain ⟨ad, f, he, hi, hrr, ho, hv⟩ := R_cptr hr
    cases he
    have hadd : ∀ j, (⟨b, off, none⟩ : Addr).add j = (⟨b, 0, none⟩ : Addr).add (off + j) := by intro j; unfold Addr.add; split <;> split <;> simp_all
    refine .cptr _ _ (fun j => f (off + j)) (hI _ hi) (fun j y hj => ?_) (fun j y hj => ?_) (fun j y hj => ?_)
    ·rw [hadd]; exact hrr _ y (by rwa [List.getElem?_drop] at hj)
    ·exact ho _ y (by rwa [List.getElem?_drop] at hj)
    ·exact (hv _ y (by rwa [List.getElem?_drop] at hj)).im hI
   | _ => exact .junk _
 | eptr id idx sz foff g n c hg => intro _; exact .junk _
 | cptr ad cells cs hi hr ho hv ih => intro _; exact (R.cptr (Im := Im) (w := w) (M := fun _ => none) ad cells cs hi hr ho hv).im hI
 | nilf => intro _; exact .nilf
 | fn f vs cs hs hh ih =>
  intro hn
  obtain ⟨h1, h2⟩ := hp hs (fun i v c hv hc => ih i v c hv hc h hp) (by simpa [names] using hn)
  exact .fn f vs _ h1 h2
 | agg vs cs hs ho hh ih =>
  intro hn
  obtain ⟨h1, h2⟩ := hp hs (fun i v c hv hc => ih i v c hv hc h hp) (by simpa [names] using hn)
  exact .agg vs _ h1 ho h2
 | tup vs cs hs hh ih =>
  intro hn
  obtain ⟨h1, h2⟩ := hp hs (fun i v c hv hc => ih i v c hv hc h hp) (by simpa [names] using hn)
  exact .tup vs _ h1 h2
 | junk v => intro _; exact .junk v
end Go.Proofs.YtodfkdnkgedgeaaT
