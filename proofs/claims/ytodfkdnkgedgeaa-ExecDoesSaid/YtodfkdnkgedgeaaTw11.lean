/- Walks over the program's functions, on values without memory, and what they come to. No condition. -/
import Derived.Test.YtodfkdnkgedgeaaTw10
set_option linter.unusedVariables false
set_option linter.unusedSimpArgs false
namespace Go.Proofs.YtodfkdnkgedgeaaT
open Go Go.RowKit
variable {cx : Cx} {Im : Nat → Prop} {M : Nat → Option Value} {st : St} {a : Act} {w : World} {P : Program} {K : St → Prop} {Q : Exit → Act → World → Prop}
theorem exec_builtin {o : Oper} {b : Builtin} {args : Array Operand} {ts : Array TypeId} (ho : o.op = .call { callee := .builtin b, args, argTypes := ts }) :
  execOp a.eval o = builtin b ts o.type (args.map fun | .const _ => true | _ => false) (args.map a.eval) := by
 unfold execOp
 rw [ho]
 rfl
theorem toList_one {α : Type} {xs : Array α} {x : α} (h : xs.toList = [x]) : xs = #[x] := by apply Array.ext'; exact h
theorem toList_two {α : Type} {xs : Array α} {x y : α} (h : xs.toList = [x, y]) : xs = #[x, y] := by apply Array.ext'; exact h
theorem vBuiltin_sound (h : FRx cx Im M st a w) {o : Oper} {b : Builtin} {args : Array Operand} {ts : Array TypeId} (ho : o.op = .call { callee := .builtin b, args, argTypes := ts }) (hb : vBuiltin P b ts.toList (args.toList.map (ev st)) o.dst st K) : o.wp P a w (Kx cx K) Q := by
 have one : ∀ x, args.toList.map (ev st) = [x] → ∃ y, args = #[y] ∧ ev st y = x := by
  intro x hx
  obtain ⟨l⟩ := args
  match l, hx with
  | [y], hx => exact ⟨y, rfl, by simpa using hx⟩
 have two : ∀ x z, args.toList.map (ev st) = [x, z] → ∃ y y', args = #[y, y'] ∧ ev st y = x ∧ ev st y' = z := by
  intro x z hx
  obtain ⟨l⟩ := args
  match l, hx with
  | [y, y'], hx => simp at hx; exact ⟨y, y', rfl, hx.1, hx.2⟩
 generalize hargs : args.toList.map (ev st) = l at hb
 generalize htys : ts.toList = tl at hb
 unfold vBuiltin at hb
 split at hb
 ·rename_i t s
  obtain ⟨hu, hk⟩ := hb
  obtain ⟨y, rfl, hy⟩ := one _ hargs
  have ht := toList_one htys
  subst ht
  have e1 := R_str (hy ▸ ev_sound h y)
  refine wp_val (v := .int .i64 s.size) (w' := w) ?_ (Kx.mk (h.put (.int _ _) _) hk)
  rw [exec_builtin ho]
  simp [builtin, Builtin.len_, run_underlying hu, e1, goInt]
 ·rename_i t x _
  obtain ⟨y, rfl, hy⟩ := one _ hargs
  have ht := toList_one htys
  subst ht
  split at hb
  ·rename_i e es he hes
   obtain ⟨o', c, e1, _⟩ := elems_len h (hy ▸ ev_sound h y) hes
   refine wp_val (v := .int .i64 es.length) (w' := w) ?_ (Kx.mk (h.put (.int _ _) _) hb)
   rw [exec_builtin ho]
   simp [builtin, Builtin.len_, run_underlying (elemOf_some he), e1, goInt]
  ·exact hb.elim
 ·rename_i k x k' y
  obtain ⟨rfl, hk⟩ := hb
  obtain ⟨p, q, rfl, hp, hq⟩ := two _ _ hargs
  have e1 := R_int (hp ▸ ev_sound h p)
  have e2 := R_int (hq ▸ ev_sound h q)
  refine wp_val (v := .int k (max x y)) (w' := w) ?_ (Kx.mk (h.put (.int _ _) _) hk)
  rw [exec_builtin ho]
  have : (if y > x then y else x) = max x y := by rw [Int.max_def]; split <;> split <;> omega
  simp only [builtin, Builtin.max_, List.map_toArray, List.map_cons, List.map_nil, e1, e2, List.foldlM_cons, List.foldlM_nil, Builtin.max2, Sem.run_bind, Sem.run_pure, Result.andThen_ok, this]
 ·rename_i k x k' y
  obtain ⟨rfl, hk⟩ := hb
  obtain ⟨p, q, rfl, hp, hq⟩ := two _ _ hargs
  have e1 := R_int (hp ▸ ev_sound h p)
  have e2 := R_int (hq ▸ ev_sound h q)
  refine wp_val (v := .int k (min x y)) (w' := w) ?_ (Kx.mk (h.put (.int _ _) _) hk)
  rw [exec_builtin ho]
  have : (if y < x then y else x) = min x y := by rw [Int.min_def]; split <;> split <;> omega
  simp only [builtin, Builtin.min_, List.map_toArray, List.map_cons, List.map_nil, e1, e2, List.foldlM_cons, List.foldlM_nil, Builtin.min2, Sem.run_bind, Sem.run_pure, Result.andThen_ok, this]
 ·rename_i ty ty' s x
  obtain ⟨p, q, rfl, hp, hq⟩ := two _ _ hargs
  split at hb
  ·rename_i e xs d he hxs hd
   obtain ⟨rfl, hd1, hid, hok, hsz, hb⟩ := hb
   have hts := toList_two htys
   subst hts
   have hrs := ev_sound h p
   rw [hp] at hrs
   obtain ⟨ox, c, news, hv, hl, hcell, hch⟩ := elems_list h (hq ▸ ev_sound h q) hxs hok.1 hsz
   have fin : (∃ v' w', (Builtin.append_ #[ty', ty'] o.type #[a.eval p, a.eval q]).run P w = .ok v' w' ∧ Kx cx K (a.put (some d) v') w') → o.wp P a w (Kx cx K) Q := by
    rintro ⟨v', w', h1, h2⟩
    refine wp_val (v := v') (w' := w') ?_ (by rw [hd]; exact h2)
    rw [exec_builtin ho]
    simp only [builtin, List.map_toArray, List.map_cons, List.map_nil, Sem.run_bind, h1, Result.andThen_ok, Sem.run_pure]
   split at hb
   ·obtain ⟨h1, h2, hk⟩ := hb
    have e1 := R_nils hrs
    rw [e1] at fin
    exact fin (app_own h he hok hid (es := []) (w.ownsRow_nil 0 e _) (Chunks.nil _) (fun b hb => by cases hb) hv hl hcell hch (by unfold lim at h1; simpa using h1) (by unfold lim at h2; simpa using h2) hk)
   ·rename_i id
    split at hb
    ·rename_i e' sz es hes
     obtain ⟨rfl, rfl, h1, h2, hk⟩ := hb
     obtain ⟨ob, n, cb, hvs, hm⟩ := R_bsl hrs
     obtain ⟨v', xs', k1, k2, k3⟩ := h.ob id _ hes
     rw [hm] at k1
     cases k1
     have hne : st.k + d ≠ id := fun e => by rw [e, hes] at hid; cases hid
     have hkill := h.kill id
     unfold lim at h1 h2
     refine fin (app_own (K := K) hkill he hok (d := d) (by simp only [hset]; rw [List.getElem?_set_ne (fun e => hne e.symm)]; exact hid) k2 k3 (fun b hb => ?_) hv hl hcell hch h1 h2 hk)
     have hob : ownB st.heap M id = some b := (ownB_arr hes hm).trans hb
     obtain ⟨s1, s2, s3⟩ := h.sep id b hob
     refine ⟨s1, s2, fun i hi => ?_⟩
     simp only [hset] at hi
     by_cases hii : i = id
     ·subst hii
      unfold ownB at hi
      rw [List.getElem?_set_self (List.getElem?_eq_some_iff.1 hes).1] at hi
      simp at hi
     ·rw [ownB_set_ne hii rfl] at hi
      exact h.own i id b hii hi hob
    ·exact hb.elim
   ·rename_i es
    obtain ⟨hne, hes, h1, h2, hk⟩ := hb
    unfold lim at h1 h2
    exact fin (app_full (K := K) h he hok hid hrs hes hv hl hcell hch hne h1 h2 hk)
   ·exact hb.elim
  ·rename_i e d he hxs hd
   split at hb
   ·rename_i k n z hz
    obtain ⟨hu, hd1, hid, hok, h0, h1, h2, hk⟩ := hb
    unfold lim at h1 h2
    have hts := toList_two htys
    subst hts
    have hrs := ev_sound h p
    rw [hp] at hrs
    have e1 := R_nils hrs
    have e2 := R_int (hq ▸ ev_sound h q)
    obtain ⟨v', w', k1, k2⟩ := app_zeros (K := K) h (ty := o.type) he hu hok hz (k := k) h0 h1 h2 hid hk
    refine wp_val (v := v') (w' := w') ?_ (by rw [hd]; exact k2)
    rw [exec_builtin ho]
    simp only [builtin, List.map_toArray, List.map_cons, List.map_nil, Sem.run_bind, e1, e2, k1, Result.andThen_ok, Sem.run_pure]
   ·exact hb.elim
  ·exact hb.elim
 ·rename_i t
  obtain ⟨he, hk⟩ := hb
  obtain ⟨y, rfl, hy⟩ := one _ hargs
  have ht := toList_one htys
  subst ht
  obtain ⟨e, he⟩ := Option.isSome_iff_exists.1 he
  have e1 := R_nils (hy ▸ ev_sound h y)
  refine wp_val (v := .int .i64 0) (w' := w) ?_ (Kx.mk (h.put (.int _ _) _) hk)
  rw [exec_builtin ho]
  simp [builtin, Builtin.cap_, run_underlying (elemOf_some he), e1, goInt]
 ·exact hb.elim
theorem call_enters {g : FuncId} {fn : Func} (hf : P.funcs[g]? = some fn) (hname : (fn.name == "runtime.NumGoroutine") = false) (hb : fn.body.isSome = true) (args : Array Value) (w : World) : (callFunc g args).run P w = .ok (.enter g args) w := by
 have hnm : ¬ (fn.name = "runtime.NumGoroutine") := by simpa using hname
 cases hbb : fn.body with
 | none => rw [hbb] at hb; cases hb
 | some c =>
  unfold callFunc
  simp [hf, hnm, hbb]
theorem wp_call {o : Oper} {f : Operand} {args : Array Operand} {ts : Array TypeId} (ho : o.op = .call { callee := .value f, args, argTypes := ts }) {g : FuncId} (hg : Enters P g) {caps : Array Value} (hf : a.eval f = .func (.func g) #[] caps) {N : Act → World → Prop}
  (h : Calls P g (args.map a.eval ++ caps) w fun e w' => ∃ v, e = .returned v ∧ N (a.put o.dst v) w') : o.wp P a w N Q := by
 obtain ⟨fn, h1, h2, h3⟩ := hg
 have hr : (execOp a.eval o).run P w = .ok (.enter g (args.map a.eval ++ caps)) w := by
  unfold execOp
  rw [ho]
  simp only [resolve, hf, Deferred.ofValue, Sem.run_bind, Sem.run_pure, Result.andThen_ok, invoke, call_enters h1 h2 h3]
  simp [call_enters h1 h2 h3]
 unfold Oper.wp
 rw [hr]
 exact h.mono fun e w' ⟨v, he, hv⟩ => by subst he; exact hv
theorem R_scalar {v : Value} {x : AV} {Im' : Nat → Prop} {w' : World} {M' : Nat → Option Value} (hr : R Im w M v x) (hs : x.scalar = true) : R Im' w' M' v x := by
 cases x with
 | int k n => have := R_int hr; subst this; exact .int _ _
 | bool b => have := R_bool hr; subst this; exact .bool _
 | str s => have := R_str hr; subst this; exact .str _
 | nilp => cases hr; exact .nilp
 | nilf => cases hr; exact .nilf
 | nils => have := R_nils hr; subst this; exact .nils
 | _ => simp [AV.scalar] at hs
theorem R_scalars {v : Value} {x : AV} {Im' : Nat → Prop} {w' : World} {M' : Nat → Option Value} (hr : R Im w M v x) (hs : x.scalars = true) : R Im' w' M' v x := by
 cases x with
 | agg cs =>
  obtain ⟨vs, rfl, h1, h2, h3⟩ := R_agg hr
  exact .agg _ _ h1 h2 (fun i v c hv hc => R_scalar (h3 i v c hv hc) (List.all_eq_true.1 (by simpa [AV.scalars] using hs) c (List.mem_of_getElem? hc)))
 | tup cs =>
  obtain ⟨vs, rfl, h1, h3⟩ := R_tup hr
  exact .tup _ _ h1 (fun i v c hv hc => R_scalar (h3 i v c hv hc) (List.all_eq_true.1 (by simpa [AV.scalars] using hs) c (List.mem_of_getElem? hc)))
 | _ => exact R_scalar hr (by simpa [AV.scalars] using hs)
theorem ownB_nil {M : Nat → Option Value} {i : Nat} : ownB [] M i = none := by unfold ownB; simp
theorem FRx.grow (h : FRx cx Im M st a w) {Im' : Nat → Prop} {w' : World} {S : Nat → Prop} (hS : ∀ b, ¬ S b) (hk : Keeps S w w') (hI : ∀ b, Im b → Im' b) (hI2 : ∀ b, Im' b → Im b ∨ w.heap.size ≤ b) (hl : ∀ b, Im' b → b < w'.heap.size) : FRx cx Im' M st a w' := by
 have hb : ∀ b, b < w.heap.size → w'.heap[b]? = w.heap[b]? := fun b hb => hk.block b hb (hS b)
 have hw : ∀ b, Im b → w'.heap[b]? = w.heap[b]? := fun b hb' => hb b (h.imlt b hb')
 refine ⟨h.kp.trans hk (fun i hi => absurd hi (hS i)), fun b hb => hI b (h.im0 b hb), fun b hb => ?_, hl, h.tl, fun i x hx => let ⟨v, hv, hr⟩ := h.tm i x hx; ⟨v, hv, hr.mono hI hw (fun _ _ h => h)⟩, fun i o ho => ?_, h.out, h.own, fun i b hb => ?_, h.mm, h.df⟩
 ·rcases hI2 b hb with hb | hb
  ·exact h.im1 b hb
  ·exact .inr (.inr (Nat.le_trans h.kp.size hb))
 ·exact (h.ob i o ho).mono hI hw (fun _ _ h => h) rfl ⟨fun b cs e hm => hb b (h.sep i b (ownB_box (e ▸ ho) hm)).2.2, fun e sz es v g he hm hg => hb g (h.sep i g ((ownB_arr (he ▸ ho) hm).trans hg)).2.2, fun s p b e hm => hb b (h.sep i b (ownB_iter (e ▸ ho) hm)).2.2⟩
 ·obtain ⟨h1, h2, h3⟩ := h.sep i b hb
  refine ⟨fun hi => ?_, h2, Nat.lt_of_lt_of_le h3 hk.size⟩
  rcases hI2 b hi with hi | hi
  ·exact h1 hi
  ·omega
theorem args_by_value {vs : Array Value} {cs ds : List AV} {Im' : Nat → Prop} {hp : List HO} (hs : vs.size = cs.length) (hr : ∀ (i : Nat) v c, vs[i]? = some v → cs[i]? = some c → R Im' w (fun _ => none) v (frz hp c)) (hl : leL (frzL hp cs) ds) :
  vs.size = ds.length ∧ ∀ (i : Nat) v d, vs[i]? = some v → ds[i]? = some d → R Im' w (fun _ => none) v d := by
 obtain ⟨h1, h2⟩ := leL_at hl
 obtain ⟨h3, h4⟩ := frzL_get hp cs
 refine ⟨by omega, fun i v d hv hd => ?_⟩
 have hi : i < (frzL hp cs).length := by have := (List.getElem?_eq_some_iff.1 hd).1; omega
 obtain ⟨c, hc, he, _⟩ := h4 i _ (List.getElem?_eq_getElem hi)
 exact (he ▸ hr i v c hv hc).le (h2 i _ d (List.getElem?_eq_getElem hi) hd)
theorem mpL_get (f : Nat → Nat) : ∀ (cs : List AV), (mpL f cs).length = cs.length ∧ ∀ (i : Nat), (mpL f cs)[i]? = (cs[i]?).map (mp f)
 | [] => ⟨rfl, fun i => by simp [mpL]⟩
 | c :: cs => by
  obtain ⟨h1, h2⟩ := mpL_get f cs
  refine ⟨by simp [mpL, h1], fun i => ?_⟩
  cases i with
  | zero => simp [mpL]
  | succ i => simpa [mpL] using h2 i
theorem vlL_get (h : List HO) : ∀ (cs : List AV), (vlL h cs).length = cs.length ∧ ∀ (i : Nat), (vlL h cs)[i]? = (cs[i]?).map (vl h)
 | [] => ⟨rfl, fun i => by simp [vlL]⟩
 | c :: cs => by
  obtain ⟨h1, h2⟩ := vlL_get h cs
  refine ⟨by simp [vlL, h1], fun i => ?_⟩
  cases i with
  | zero => simp [vlL]
  | succ i => simpa [vlL] using h2 i
theorem R.mp {f : Nat → Nat} {N : Nat → Option Value} (hf : ∀ i u, M i = some u → N (f i) = some u) {v : Value} {x : AV} (h : R Im w M v x) : R Im w N v (Go.Proofs.YtodfkdnkgedgeaaT.mp f x) := by
 have hM : ∀ {M' : Nat → Option Value} {v : Value} {x : AV}, R Im w M' v x → M' = M → R Im w N v (Go.Proofs.YtodfkdnkgedgeaaT.mp f x) := by
  intro M' v x h
  induction h with
  | int k n => intro _; exact .int k n
  | bool b => intro _; exact .bool b
  | str s => intro _; exact .str s
  | nils => intro _; exact .nils
  | sl a c full es ad sz cs hc hf hm ha hl hr ho hv ih => intro _; exact .sl a c full es ad sz cs hc hf hm ha hl hr ho hv
  | bsl id a n c hb => intro e; exact .bsl _ a n c (hf _ _ (e ▸ hb))
  | nilp => intro _; exact .nilp
  | ptr id off b hb => intro e; exact .ptr _ off b (hf _ _ (e ▸ hb))
  | eptr id idx sz foff g n c hb => intro e; exact .eptr _ idx sz foff g n c (hf _ _ (e ▸ hb))
  | cptr ad cells cs hi hr ho hv ih => intro _; exact .cptr ad cells cs hi hr ho hv
  | nilf => intro _; exact .nilf
  | fn g vs cs hs h ih =>
   intro e
   obtain ⟨h1, h2⟩ := mpL_get f cs
   refine .fn g vs _ (by rw [h1]; exact hs) (fun i v c hv hc => ?_)
   rw [h2] at hc
   obtain ⟨c', hc', rfl⟩ := Option.map_eq_some_iff.1 hc
   exact ih i v c' hv hc' e
  | agg vs cs hs ho h ih =>
   intro e
   obtain ⟨h1, h2⟩ := mpL_get f cs
   refine .agg vs _ (by rw [h1]; exact hs) ho (fun i v c hv hc => ?_)
   rw [h2] at hc
   obtain ⟨c', hc', rfl⟩ := Option.map_eq_some_iff.1 hc
   exact ih i v c' hv hc' e
  | tup vs cs hs h ih =>
   intro e
   obtain ⟨h1, h2⟩ := mpL_get f cs
   refine .tup vs _ (by rw [h1]; exact hs) (fun i v c hv hc => ?_)
   rw [h2] at hc
   obtain ⟨c', hc', rfl⟩ := Option.map_eq_some_iff.1 hc
   exact ih i v c' hv hc' e
  | junk v => intro _; exact .junk v
 exact hM h rfl
mutual
theorem R.unmp {f : Nat → Nat} : ∀ (x : AV) {v : Value}, R Im w M v (Go.Proofs.YtodfkdnkgedgeaaT.mp f x) → R Im w (fun i => M (f i)) v x
 | .int k n, v, h => by have := R_int h; subst this; exact .int _ _
 | .bool b, v, h => by have := R_bool h; subst this; exact .bool _
 | .str s, v, h => by have := R_str h; subst this; exact .str _
 | .nils, v, h => by have := R_nils h; subst this; exact .nils
 | .sl g es, v, h => by
  obtain ⟨o, c, ad, sz, cs, rfl, h1, h2, h3, h4, h5, h6, h7, h8⟩ := R_sl h
  exact .sl o c g es ad sz cs h1 h2 h3 h4 h5 h6 h7 h8
 | .bsl i, v, h => by
  obtain ⟨a, n, c, rfl, hm⟩ := R_bsl h
  exact .bsl i a n c hm
 | .nilp, v, h => by unfold Go.Proofs.YtodfkdnkgedgeaaT.mp at h; cases h; exact .nilp
 | .ptr i o, v, h => by
  obtain ⟨b, rfl, hm⟩ := R_ptr h
  exact .ptr i o b hm
 | .eptr i a b c, v, h => by
  obtain ⟨g, n, c', rfl, hm⟩ := R_eptr h
  exact .eptr i a b c g n c' hm
 | .cptr cs, v, h => by
  obtain ⟨ad, f', rfl, h1, h2, h3, h4⟩ := R_cptr h
  exact .cptr ad cs f' h1 h2 h3 h4
 | .nilf, v, h => by unfold Go.Proofs.YtodfkdnkgedgeaaT.mp at h; cases h; exact .nilf
 | .fn g cs, v, h => by
  obtain ⟨vs, rfl, h1, h2⟩ := R_fn h
  exact .fn g vs cs (by rw [h1, (mpL_get f cs).1]) (R.unmpL cs h2)
 | .agg cs, v, h => by
  obtain ⟨vs, rfl, h1, h2, h3⟩ := R_agg h
  exact .agg vs cs (by rw [h1, (mpL_get f cs).1]) h2 (R.unmpL cs h3)
 | .tup cs, v, h => by
  obtain ⟨vs, rfl, h1, h2⟩ := R_tup h
  exact .tup vs cs (by rw [h1, (mpL_get f cs).1]) (R.unmpL cs h2)
 | .junk, v, h => .junk v
theorem R.unmpL {f : Nat → Nat} : ∀ (cs : List AV) {vs : Array Value}, (∀ (i : Nat) v c, vs[i]? = some v → (mpL f cs)[i]? = some c → R Im w M v c) → ∀ (i : Nat) v c, vs[i]? = some v → cs[i]? = some c → R Im w (fun i => M (f i)) v c
 | [], _, _, i, v, c, _, hc => by simp at hc
 | x :: l, vs, h, 0, v, c, hv, hc => by
  simp only [List.getElem?_cons_zero, Option.some.injEq] at hc
  subst hc
  exact R.unmp x (h 0 v _ hv (by simp [mpL]))
 | x :: l, vs, h, i + 1, v, c, hv, hc => by
  simp only [List.getElem?_cons_succ] at hc
  exact R.unmpL l (vs := vs.extract 1 vs.size) (fun j u d hu hd => h (j + 1) u d (by
   rw [Array.getElem?_extract] at hu
   split at hu
   ·rw [Nat.add_comm]; exact hu
   ·cases hu) (by simpa [mpL] using hd)) i v c (by
   rw [Array.getElem?_extract, if_pos (by have := (Array.getElem?_eq_some_iff.1 hv).1; omega), Nat.add_comm]; exact hv) hc
end
theorem RO.mp {f : Nat → Nat} {N : Nat → Option Value} {i j : Nat} (hf : ∀ i u, M i = some u → N (f i) = some u) (hij : N j = M i) {o : HO} (h : RO Im w M i o) : RO Im w N j (mpO f o) := by
 cases o with
 | un => exact hij.trans h
 | dead => exact trivial
 | box cs =>
  obtain ⟨b, vs, ty, h1, h2, h3, h4, h5⟩ := h
  refine ⟨b, vs, ty, hij.trans h1, h2, by rw [(mpL_get f cs).1]; exact h3, h4, fun i v c hv hc => ?_⟩
  rw [(mpL_get f cs).2] at hc
  obtain ⟨c', hc', rfl⟩ := Option.map_eq_some_iff.1 hc
  exact (h5 i v c' hv hc').mp hf
 | ibox cs =>
  obtain ⟨b, h1, h2⟩ := h
  exact ⟨b, hij.trans h1, h2⟩
 | arr e sz es =>
  obtain ⟨v, xs, h1, h2⟩ := h
  exact ⟨v, xs, hij.trans h1, h2⟩
 | imm es =>
  obtain ⟨v, h1, h2⟩ := h
  exact ⟨v, hij.trans h1, h2⟩
 | iter s p =>
  obtain ⟨b, h1, h2⟩ := h
  exact ⟨b, hij.trans h1, h2⟩
theorem RO.unmp {f : Nat → Nat} {i : Nat} {o : HO} (h : RO Im w M (f i) (mpO f o)) : RO Im w (fun i => M (f i)) i o := by
 cases o with
 | un => exact h
 | dead => exact trivial
 | box cs =>
  obtain ⟨b, vs, ty, h1, h2, h3, h4, h5⟩ := h
  exact ⟨b, vs, ty, h1, h2, by rw [h3, (mpL_get f cs).1], h4, R.unmpL cs h5⟩
 | ibox cs => exact h
 | arr e sz es => exact h
 | imm es => exact h
 | iter s p => exact h
theorem ownB_mp {f : Nat → Nat} {h h' : List HO} {N : Nat → Option Value} {i j : Nat} {o : HO} (h1 : h[i]? = some o) (h2 : h'[j]? = some (mpO f o)) (hm : N j = M i) : ownB h' N j = ownB h M i := by
 unfold ownB
 rw [h1, h2, hm]
 cases o with
 | box cs => cases hM : M i with
  | none => rfl
  | some v => cases v with
   | pointer p => cases p <;> rfl
   | _ => rfl
 | _ => rfl
theorem vl_sound (h : FRx cx Im M st a w) : ∀ {v : Value} {x : AV}, R Im w M v x → R Im w M v (vl st.heap x) := by
 intro v x hr
 have key : ∀ {M' : Nat → Option Value} {v : Value} {x : AV}, R Im w M' v x → M' = M → R Im w M v (vl st.heap x) := by
  intro M' v x hr
  induction hr with
  | int k n => intro _; exact .int k n
  | bool b => intro _; exact .bool b
  | str s => intro _; exact .str s
  | nils => intro _; exact .nils
  | sl a c full es ad sz cs hc hf hm ha hl hr ho hv ih => intro _; exact .sl a c full es ad sz cs hc hf hm ha hl hr ho hv
  | bsl id a n c hv =>
   intro e; subst e
   simp only [vl]
   split
   ·rename_i es hid
    obtain ⟨u, hm, hr⟩ := h.ob id _ hid
    rw [hv] at hm
    cases hm
    exact hr.pure0
   ·exact .bsl id a n c hv
  | nilp => intro _; exact .nilp
  | ptr id off b hb =>
   intro e; subst e
   simp only [vl]
   split
   ·rename_i cs hid
    obtain ⟨b', hm, hr⟩ := h.ob id _ hid
    rw [hb] at hm
    cases hm
    obtain ⟨ad, f, he, hi, hrr, ho, hv⟩ := R_cptr hr
    cases he
    have hadd : ∀ j, (⟨b, off, none⟩ : Addr).add j = (⟨b, 0, none⟩ : Addr).add (off + j) := by intro j; unfold Addr.add; split <;> split <;> simp_all
    refine .cptr _ _ (fun j => f (off + j)) hi (fun j y hj => ?_) (fun j y hj => ?_) (fun j y hj => ?_)
    ·rw [hadd]; exact hrr _ y (by rwa [List.getElem?_drop] at hj)
    ·exact ho _ y (by rwa [List.getElem?_drop] at hj)
    ·exact hv _ y (by rwa [List.getElem?_drop] at hj)
   ·exact .ptr id off b hb
  | eptr id idx sz foff g n c hg => intro e; subst e; exact .eptr id idx sz foff g n c hg
  | cptr ad cells cs hi hr ho hv ih => intro _; exact .cptr ad cells cs hi hr ho hv
  | nilf => intro _; exact .nilf
  | fn g vs cs hs h ih =>
   intro e
   obtain ⟨h1, h2⟩ := vlL_get st.heap cs
   refine .fn g vs _ (by rw [h1]; exact hs) (fun i v c hv hc => ?_)
   rw [h2] at hc
   obtain ⟨c', hc', rfl⟩ := Option.map_eq_some_iff.1 hc
   exact ih i v c' hv hc' e
  | agg vs cs hs ho h ih =>
   intro e
   obtain ⟨h1, h2⟩ := vlL_get st.heap cs
   refine .agg vs _ (by rw [h1]; exact hs) ho (fun i v c hv hc => ?_)
   rw [h2] at hc
   obtain ⟨c', hc', rfl⟩ := Option.map_eq_some_iff.1 hc
   exact ih i v c' hv hc' e
  | tup vs cs hs h ih =>
   intro e
   obtain ⟨h1, h2⟩ := vlL_get st.heap cs
   refine .tup vs _ (by rw [h1]; exact hs) (fun i v c hv hc => ?_)
   rw [h2] at hc
   obtain ⟨c', hc', rfl⟩ := Option.map_eq_some_iff.1 hc
   exact ih i v c' hv hc' e
  | junk v => intro _; exact .junk v
 exact key hr rfl
theorem matchH_get {h : List HO} {f : Nat → Nat} : ∀ {is : List Nat} {os : List HO}, matchH h f is os → is.length = os.length ∧ ∀ (k : Nat) o, os[k]? = some o → ∃ i, is[k]? = some i ∧ h[i]? = some (mpO f o)
 | [], [], _ => ⟨rfl, fun k o h => by simp at h⟩
 | i :: is, o :: os, h => by
  obtain ⟨h1, h2⟩ := matchH_get h.2
  refine ⟨by simp [h1], fun k p hp => ?_⟩
  cases k with
  | zero => simp at hp; subst hp; exact ⟨i, rfl, h.1⟩
  | succ k => simpa using h2 k p (by simpa using hp)
 | [], _ :: _, h => h.elim
 | _ :: _, [], h => h.elim
theorem freshH_get {h : List HO} {k : Nat} : ∀ {is : List Nat}, freshH h k is → ∀ i ∈ is, h[i]? = some .un ∧ k ≤ i
 | [], _, i, hi => by cases hi
 | j :: is, hf, i, hi => by
  rcases List.mem_cons.1 hi with rfl | hi
  ·exact ⟨hf.1, hf.2.1⟩
  ·exact freshH_get hf.2.2 i hi
theorem nodupB_iff : ∀ {l : List Nat}, nodupB l = true → l.Nodup
 | [], _ => List.nodup_nil
 | i :: is, h => by
  simp only [nodupB, Bool.and_eq_true, Bool.not_eq_true', List.contains_eq_mem, decide_eq_false_iff_not] at h
  exact List.nodup_cons.2 ⟨h.1, nodupB_iff h.2⟩
theorem setAll_get (f : Nat → Nat) : ∀ (is : List Nat) (os : List HO) (h : List HO), is.Nodup → is.length = os.length → (∀ i ∈ is, i < h.length) →
  (setAll f is os h).length = h.length ∧ (∀ (k i : Nat) o, is[k]? = some i → os[k]? = some o → (setAll f is os h)[i]? = some (mpO f o)) ∧ ∀ i, i ∉ is → (setAll f is os h)[i]? = h[i]?
 | [], os, h, _, hl, _ => by
  cases os with
  | nil => exact ⟨rfl, fun k i o hk => by simp at hk, fun i _ => rfl⟩
  | cons o os => simp at hl
 | j :: is, [], h, _, hl, _ => by simp at hl
 | j :: is, o :: os, h, hn, hl, hlt => by
  rw [List.nodup_cons] at hn
  obtain ⟨h1, h2, h3⟩ := setAll_get f is os (h.set j (mpO f o)) hn.2 (by simpa using hl) (fun i hi => by rw [List.length_set]; exact hlt i (List.mem_cons_of_mem _ hi))
  unfold setAll
  refine ⟨by rw [h1, List.length_set], fun k i p hk hp => ?_, fun i hi => ?_⟩
  ·cases k with
   | zero =>
    simp at hk hp
    subst hk; subst hp
    rw [h3 j hn.1, List.getElem?_set_self (hlt j (by simp))]
   | succ k => exact h2 k i p (by simpa using hk) (by simpa using hp)
  ·rw [List.mem_cons, not_or] at hi
   rw [h3 i hi.2, List.getElem?_set_ne (Ne.symm hi.1)]
theorem vCall_sound (h : FRx cx Im M st a w) {o : Oper} {f : Operand} {args : Array Operand} {ts : Array TypeId} (ho : o.op = .call { callee := .value f, args, argTypes := ts }) {g : FuncId} {caps : List AV} (hf : ev st f = .fn g caps) (hc : vCall P g (args.toList.map (ev st) ++ caps) o.dst st K) : o.wp P a w (Kx cx K) Q := by
 obtain ⟨cv, hfv, hcs, hcr⟩ := R_fn (hf ▸ ev_sound h f)
 obtain ⟨has, har⟩ := evs_sound h args
 have hsz : (args.map a.eval ++ cv).size = (args.toList.map (ev st) ++ caps).length := by rw [Array.size_append, List.length_append]; omega
 have hall : ∀ (i : Nat) v c, (args.map a.eval ++ cv)[i]? = some v → (args.toList.map (ev st) ++ caps)[i]? = some c → R Im w M v c := by
  intro i v c hv hc
  rcases Nat.lt_or_ge i (args.map a.eval).size with hi | hi
  ·rw [Array.getElem?_append_left hi] at hv
   rw [List.getElem?_append_left (by omega)] at hc
   exact har i v c hv hc
  ·rw [Array.getElem?_append_right hi] at hv
   rw [List.getElem?_append_right (by omega)] at hc
   exact hcr _ v c hv (by rw [has]; exact hc)
 generalize args.toList.map (ev st) ++ caps = l at hc hsz hall
 cases hc with
 | sc args' res hret ha hs hk =>
  obtain ⟨hent, hret⟩ := hret
  have hfz : ∀ (i : Nat) v c, (args.map a.eval ++ cv)[i]? = some v → l[i]? = some c → R (fun b => Im b ∨ ∃ i, ownB st.heap M i = some b) w (fun _ => none) v (frz st.heap c) := fun i v c hv hc =>
   frz_sound h (fun _ h => .inl h) (hall i v c hv hc) (fun id _ e sz es b he hb => .inr ⟨id, hb⟩)
  obtain ⟨k1, k2⟩ := args_by_value hsz hfz ha
  refine wp_call ho hent hfv ((hret w (fun b => Im b ∨ ∃ i, ownB st.heap M i = some b) (fun _ => none) _ (fun b hb => ?_) k1 k2 (fun i o h => by simp at h) (fun _ _ => rfl) (fun i j b _ h => by rw [ownB_nil] at h; cases h) (fun i b h => by rw [ownB_nil] at h; cases h)).mono ?_)
  ·rcases hb with hb | ⟨i, hb⟩
   ·exact h.imlt b hb
   ·exact (h.sep i b hb).2.2
  ·rintro e w' ⟨v, Im', M', rfl, hkp, _, _, _, hr, _⟩
   have hS : ∀ b, ¬ ∃ i, ownB ([] : List HO) (fun _ => (none : Option Value)) i = some b := by rintro b ⟨i, hi⟩; rw [ownB_nil] at hi; cases hi
   have hg := h.grow (Im' := Im) hS hkp (fun _ h => h) (fun _ h => .inl h) (fun b hb => Nat.lt_of_lt_of_le (h.imlt b hb) hkp.size)
   exact ⟨v, rfl, Kx.mk (hg.put (R_scalars hr hs) _) hk⟩
 | pu args' res hret ha hk =>
  obtain ⟨hent, hret⟩ := hret
  obtain ⟨I1, hI, hI2, hF, hfr⟩ := freeze h l
  have hfz : ∀ (i : Nat) v c, (args.map a.eval ++ cv)[i]? = some v → l[i]? = some c → R I1 w (fun _ => none) v (frz st.heap c) := fun i v c hv hc =>
   hfr v c (hall i v c hv hc) (fun id hid => namesL_mem (List.mem_of_getElem? hc) hid)
  obtain ⟨k1, k2⟩ := args_by_value hsz hfz ha
  refine wp_call ho hent hfv ((hret w I1 (fun _ => none) _ hF.imlt k1 k2 (fun i o h => by simp at h) (fun _ _ => rfl) (fun i j b _ h => by rw [ownB_nil] at h; cases h) (fun i b h => by rw [ownB_nil] at h; cases h)).mono ?_)
  rintro e w' ⟨v, Im', M', rfl, hkp, j1, j2, j3, hr, _, hM, _⟩
  have hS : ∀ b, ¬ ∃ i, ownB ([] : List HO) (fun _ => (none : Option Value)) i = some b := by rintro b ⟨i, hi⟩; rw [ownB_nil] at hi; cases hi
  have hg := hF.grow hS hkp j1 (fun b hb => (j2 b hb).imp id (fun h => h.resolve_left (hS b))) j3
  have hMn : M' = fun _ => none := funext fun i => hM i (Nat.zero_le _)
  subst hMn
  exact ⟨v, rfl, Kx.mk (hg.put hr.pure0 _) hk⟩
 | ar args' e sz es t hd ht hret ha hu hk =>
  obtain ⟨hent, hret⟩ := hret
  obtain ⟨I1, hI, hI2, hF, hfr⟩ := freeze h l
  have hfz : ∀ (i : Nat) v c, (args.map a.eval ++ cv)[i]? = some v → l[i]? = some c → R I1 w (fun _ => none) v (frz st.heap c) := fun i v c hv hc =>
   hfr v c (hall i v c hv hc) (fun id hid => namesL_mem (List.mem_of_getElem? hc) hid)
  obtain ⟨k1, k2⟩ := args_by_value hsz hfz ha
  refine wp_call ho hent hfv ((hret w I1 (fun _ => none) _ hF.imlt k1 k2 (fun i o h => by simp at h) (fun _ _ => rfl) (fun i j b _ h => by rw [ownB_nil] at h; cases h) (fun i b h => by rw [ownB_nil] at h; cases h)).mono ?_)
  rintro e' w' ⟨v, Im', M', rfl, hkp, j1, j2, j3, hr, hob, hM, _, hsep, _⟩
  have hS : ∀ b, ¬ ∃ i, ownB ([] : List HO) (fun _ => (none : Option Value)) i = some b := by rintro b ⟨i, hi⟩; rw [ownB_nil] at hi; cases hi
  have hg := hF.grow hS hkp j1 (fun b hb => (j2 b hb).imp id (fun h => h.resolve_left (hS b))) j3
  have hun : (frzHL st.heap l)[st.k + t]? = some .un := fixes_un _ hu
  obtain ⟨oo, n, c, hv, hm0⟩ := R_bsl hr
  obtain ⟨v', xs, m1, m2, m3⟩ := hob 0 (.arr e sz es) rfl
  rw [hm0] at m1
  cases m1
  have hn := hg.new (st := { st with heap := frzHL st.heap l }) hun (Nat.le_add_right _ _) (w' := w') hg.kp (Nat.le_refl _) (fun _ _ => rfl) (fun _ _ _ => rfl) v (.arr e sz es) ⟨v, xs, by simp, m2, m3⟩ (fun b hb => by
   unfold ownB at hb
   rw [List.getElem?_set_self (List.getElem?_eq_some_iff.1 hun).1] at hb
   simp only [if_true] at hb
   have hob0 : ownB [HO.arr e sz es] M' 0 = some b := (ownB_arr (h := [HO.arr e sz es]) (id := 0) rfl hm0).trans hb
   obtain ⟨s1, s2, s3⟩ := hsep 0 b hob0
   have s4 := s2.resolve_left (hS b)
   exact ⟨s1, .inr (Nat.le_trans h.kp.size s4), s3, fun i hi => by have := (hF.sep i b hi).2.2; omega⟩)
  refine ⟨v, rfl, ?_⟩
  rw [hd]
  have hv2 : R Im' w' (fun j => if j = st.k + t then some v else M j) v (.bsl (st.k + t)) := by rw [hv]; exact .bsl _ _ _ _ (by simp [hv])
  exact Kx.mk (hn.put hv2 (some t)) hk
 | io ids news args' res hin hout hret ha hi hn hd hl hk =>
  obtain ⟨hent, hret⟩ := hret
  have hnd := nodupB_iff hd
  obtain ⟨hil, hig⟩ := matchH_get hi
  have hng := freshH_get hn
  obtain ⟨f, hfd⟩ : ∃ f : Nat → Nat, f = fun i => ids.getD i st.heap.length := ⟨_, rfl⟩
  obtain ⟨q, hqd⟩ : ∃ q : Nat → Nat, q = fun i => (ids ++ news).getD i st.heap.length := ⟨_, rfl⟩
  rw [← hfd] at ha hig
  rw [← hqd] at hk
  have hget : ∀ k o, hin[k]? = some o → ids[k]? = some (f k) ∧ st.heap[f k]? = some (mpO f o) := by
   intro k o ho
   obtain ⟨i, h1, h2⟩ := hig k o ho
   have : f k = i := by rw [hfd]; simp only [List.getD_eq_getElem?_getD, h1, Option.getD_some]
   rw [this]; exact ⟨h1, h2⟩
  have hfout : ∀ k, hin.length ≤ k → M (f k) = none := by
   intro k hk'
   refine h.out _ ?_
   rw [hfd]; simp only [List.getD_eq_getElem?_getD, List.getElem?_eq_none (show ids.length ≤ k by omega), Option.getD_none]
   exact Nat.le_refl _
  have hown : ∀ k, ownB hin (fun i => M (f i)) k = if k < hin.length then ownB st.heap M (f k) else none := by
   intro k
   by_cases hkl : k < hin.length
   ·rw [if_pos hkl]
    have ho := List.getElem?_eq_getElem hkl
    exact (ownB_mp (M := fun i => M (f i)) (N := M) ho (hget k _ ho).2 rfl).symm
   ·rw [if_neg hkl]
    unfold ownB
    rw [List.getElem?_eq_none (by omega)]
  have hfinj : ∀ i j, i < hin.length → j < hin.length → i ≠ j → f i ≠ f j := by
   intro i j h1 h2 hij e
   have e1 := (hget i _ (List.getElem?_eq_getElem h1)).1
   have e2 := (hget j _ (List.getElem?_eq_getElem h2)).1
   rw [List.nodup_append] at hnd
   rw [e] at e1
   exact hij ((List.getElem?_inj (by omega) hnd.1).1 (e1.trans e2.symm))
  have k12 : (args.map a.eval ++ cv).size = args'.length ∧ ∀ (i : Nat) v d, (args.map a.eval ++ cv)[i]? = some v → args'[i]? = some d → R Im w (fun i => M (f i)) v d := by
   obtain ⟨h1, h2⟩ := leL_at ha
   obtain ⟨h3, h4⟩ := vlL_get st.heap l
   obtain ⟨h5, h6⟩ := mpL_get f args'
   refine ⟨by omega, fun i v d hv hdd => R.unmp d ?_⟩
   have hi' : i < l.length := by have := (List.getElem?_eq_some_iff.1 hdd).1; omega
   have hc := List.getElem?_eq_getElem hi'
   exact (vl_sound h (hall i v _ hv hc)).le (h2 i _ _ (by rw [h4, hc]; rfl) (by rw [h6, hdd]; rfl))
  refine wp_call ho hent hfv ((hret w Im (fun i => M (f i)) _ h.imlt k12.1 k12.2 (fun i o hi' => RO.unmp (h.ob _ _ (hget i o hi').2)) (fun i hi' => hfout i hi') (fun i j b hij h1 h2 => ?_) (fun i b hb => ?_)).mono ?_)
  ·rw [hown] at h1 h2
   split at h1
   ·split at h2
    ·rename_i hi' hj'
     exact h.own _ _ b (hfinj i j hi' hj' hij) h1 h2
    ·cases h2
   ·cases h1
  ·rw [hown] at hb
   split at hb
   ·obtain ⟨s1, _, s3⟩ := h.sep _ b hb
    exact ⟨s1, s3⟩
   ·cases hb
  ·rintro e w' ⟨v, Im', M', rfl, hkp, j1, j2, j3, hr, hob, hM, hap, hsep, hMM⟩
   have hSown : ∀ b, (∃ i, ownB hin (fun i => M (f i)) i = some b) → ∃ i, i ∈ ids ∧ ownB st.heap M i = some b := by
    rintro b ⟨i, hb⟩
    rw [hown] at hb
    split at hb
    ·rename_i hi'
     exact ⟨f i, List.mem_of_getElem? (hget i _ (List.getElem?_eq_getElem hi')).1, hb⟩
    ·cases hb
   let M2 : Nat → Option Value := fun j => if j ∈ news then M' (ids.length + news.idxOf j) else M j
   have hnewsM : ∀ j ∈ news, M j = none := fun j hj => h.ob j _ (hng j hj).1
   have hids_new : ∀ j ∈ ids, j ∉ news := fun j hj hj' => by
    rw [List.nodup_append] at hnd
    exact hnd.2.2 j hj j hj' rfl
   have hMM2 : ∀ i u, M i = some u → M2 i = some u := by
    intro i u hu
    show (if i ∈ news then _ else M i) = _
    rw [if_neg (fun hn' => by rw [hnewsM i hn'] at hu; cases hu)]
    exact hu
   have hq1 : ∀ k, k < ids.length → q k = f k ∧ ids[k]? = some (f k) := by
    intro k hk'
    have : q k = f k := by
     rw [hqd, hfd]; simp only [List.getD_eq_getElem?_getD, List.getElem?_append_left hk']
    refine ⟨this, ?_⟩
    rw [hfd]; simp only [List.getD_eq_getElem?_getD, List.getElem?_eq_getElem hk', Option.getD_some]
   have hq2 : ∀ k, ids.length ≤ k → k < ids.length + news.length → ∃ j, news[k - ids.length]? = some j ∧ q k = j ∧ M2 j = M' k := by
    intro k h1 h2
    have hlt : k - ids.length < news.length := by omega
    refine ⟨news[k - ids.length], List.getElem?_eq_getElem hlt, ?_, ?_⟩
    ·rw [hqd]; simp only [List.getD_eq_getElem?_getD, List.getElem?_append_right h1, List.getElem?_eq_getElem hlt, Option.getD_some]
    ·show (if _ ∈ news then _ else _) = _
     rw [if_pos (List.getElem_mem hlt)]
     rw [List.nodup_append] at hnd
     rw [hnd.2.1.idxOf_getElem _ hlt]
     congr 1; omega
   have hMq : ∀ i, i < hout.length → M2 (q i) = M' i := by
    intro i hi'
    rcases Nat.lt_or_ge i ids.length with h1 | h1
    ·obtain ⟨e1, e2⟩ := hq1 i h1
     rw [e1, hMM i (by omega)]
     show (if _ ∈ news then _ else _) = _
     rw [if_neg (hids_new _ (List.mem_of_getElem? e2))]
    ·obtain ⟨j, e1, e2, e3⟩ := hq2 i h1 (by omega)
     rw [e2, e3]
   have hfwd : ∀ i u, M' i = some u → M2 (q i) = some u := by
    intro i u hu
    rw [hMq i (by
     rcases Nat.lt_or_ge i hout.length with h1 | h1
     ·exact h1
     ·rw [hM i h1] at hu; cases hu)]
    exact hu
   have hltI : ∀ i ∈ ids ++ news, i < st.heap.length := by
    intro i hi'
    rcases List.mem_append.1 hi' with hi' | hi'
    ·obtain ⟨k, hk', rfl⟩ := List.getElem_of_mem hi'
     obtain ⟨i', e1, e2⟩ := hig k _ (List.getElem?_eq_getElem (by omega : k < hin.length))
     rw [List.getElem?_eq_getElem hk'] at e1
     cases e1
     exact (List.getElem?_eq_some_iff.1 e2).1
    ·exact (List.getElem?_eq_some_iff.1 (hng i hi').1).1
   obtain ⟨g1, g2, g3⟩ := setAll_get q (ids ++ news) hout st.heap hnd (by rw [List.length_append]; omega) hltI
   have hpos : ∀ i ∈ ids ++ news, ∃ k o, (ids ++ news)[k]? = some i ∧ hout[k]? = some o ∧ q k = i := by
    intro i hi'
    obtain ⟨k, hk', rfl⟩ := List.getElem_of_mem hi'
    have hlk : k < hout.length := by rw [List.length_append] at hk'; omega
    refine ⟨k, hout[k], List.getElem?_eq_getElem hk', List.getElem?_eq_getElem hlk, ?_⟩
    rw [hqd]; simp only [List.getD_eq_getElem?_getD, List.getElem?_eq_getElem hk', Option.getD_some]
   have hImS : ∀ b, Im b → ¬ ∃ i, ownB hin (fun i => M (f i)) i = some b := by
    intro b hb hs
    obtain ⟨i, _, hi'⟩ := hSown b hs
    exact (h.sep i b hi').1 hb
   have hImw : ∀ b, Im b → w'.heap[b]? = w.heap[b]? := fun b hb => hkp.block b (h.imlt b hb) (hImS b hb)
   have holdS : ∀ i b, i ∉ ids → ownB st.heap M i = some b → ¬ ∃ i, ownB hin (fun i => M (f i)) i = some b := by
    intro i b hni hb hs
    obtain ⟨j, hj, hj'⟩ := hSown b hs
    exact h.own i j b (fun e => hni (e ▸ hj)) hb hj'
   have hold : ∀ i b, i ∉ ids → ownB st.heap M i = some b → w'.heap[b]? = w.heap[b]? := fun i b hni hb => hkp.block b (h.sep i b hb).2.2 (holdS i b hni hb)
   have own_new : ∀ i ∈ ids ++ news, ∃ k, k < hout.length ∧ q k = i ∧ ownB (setAll q (ids ++ news) hout st.heap) M2 i = ownB hout M' k := by
    intro i hi'
    obtain ⟨k, o, e1, e2, e3⟩ := hpos i hi'
    have hlk := (List.getElem?_eq_some_iff.1 e2).1
    exact ⟨k, hlk, e3, ownB_mp (M := M') (N := M2) e2 (g2 k i o e1 e2) (by rw [← e3]; exact hMq k hlk)⟩
   have own_old : ∀ i, i ∉ ids ++ news → ownB (setAll q (ids ++ news) hout st.heap) M2 i = ownB st.heap M i := by
    intro i hi'
    unfold ownB
    rw [g3 i hi', show M2 i = M i from if_neg fun hn' => hi' (List.mem_append_right _ hn')]
   have qinj : ∀ k k', k < hout.length → k' < hout.length → q k = q k' → k = k' := by
    intro k k' h1 h2 e
    have e1 : (ids ++ news)[k]? = some (q k) := by
     rw [hqd]; simp only [List.getD_eq_getElem?_getD]
     rw [List.getElem?_eq_getElem (show k < (ids ++ news).length by rw [List.length_append]; omega)]; rfl
    have e2 : (ids ++ news)[k']? = some (q k') := by
     rw [hqd]; simp only [List.getD_eq_getElem?_getD]
     rw [List.getElem?_eq_getElem (show k' < (ids ++ news).length by rw [List.length_append]; omega)]; rfl
    rw [e] at e1
    exact (List.getElem?_inj (by rw [List.length_append]; omega) hnd).1 (e1.trans e2.symm)
   have hF : FRx cx Im' M2 ⟨st.tmps, setAll q (ids ++ news) hout st.heap, st.k⟩ a w' := by
    refine ⟨h.kp.trans hkp (fun b hb => ?_), fun b hb => j1 b (h.im0 b hb), fun b hb => ?_, j3, h.tl, fun i x hx => ?_, fun i o hio => ?_, fun i hi' => ?_, fun i j b hij h1 h2 => ?_, fun i b hb => ?_, fun i hi' => ?_, h.df⟩
    ·obtain ⟨i, _, hi'⟩ := hSown b hb
     exact (h.sep i b hi').2.1
    ·rcases j2 b hb with hb | hb | hb
     ·exact h.im1 b hb
     ·obtain ⟨i, _, hi'⟩ := hSown b hb
      exact .inr (h.sep i b hi').2.1
     ·exact .inr (.inr (Nat.le_trans h.kp.size hb))
    ·obtain ⟨u, hu, hru⟩ := h.tm i x hx
     exact ⟨u, hu, hru.mono j1 hImw hMM2⟩
    ·by_cases hi' : i ∈ ids ++ news
     ·obtain ⟨k, o', e1, e2, e3⟩ := hpos i hi'
      simp only at hio
      rw [g2 k i o' e1 e2] at hio
      cases hio
      exact RO.mp hfwd (by rw [← e3]; exact hMq k (List.getElem?_eq_some_iff.1 e2).1) (hob k o' e2)
     ·simp only at hio
      rw [g3 i hi'] at hio
      have hni : i ∉ ids := fun hh => hi' (List.mem_append_left _ hh)
      exact (h.ob i o hio).mono j1 hImw hMM2 (if_neg fun hn' => hi' (List.mem_append_right _ hn')) ⟨fun b cs e hm => hold i b hni (ownB_box (e ▸ hio) hm), fun e sz es v g he hm hg => hold i g hni ((ownB_arr (he ▸ hio) hm).trans hg), fun s p b e hm => hold i b hni (ownB_iter (e ▸ hio) hm)⟩
    ·simp only at hi'
     rw [g1] at hi'
     show (if i ∈ news then _ else M i) = none
     rw [if_neg (fun hn' => by have := hltI i (List.mem_append_right _ hn'); omega)]
     exact h.out i hi'
    ·simp only at h1 h2
     by_cases hi' : i ∈ ids ++ news
     ·obtain ⟨k, kl, e1, e2⟩ := own_new i hi'
      rw [e2] at h1
      by_cases hj' : j ∈ ids ++ news
      ·obtain ⟨k', kl', e1', e2'⟩ := own_new j hj'
       rw [e2'] at h2
       exact hap k k' b (fun e => hij (by rw [← e1, ← e1', e])) h1 h2
      ·rw [own_old j hj'] at h2
       obtain ⟨s1, s2, s3⟩ := hsep k b h1
       rcases s2 with s2 | s2
       ·exact holdS j b (fun hh => hj' (List.mem_append_left _ hh)) h2 s2
       ·have := (h.sep j b h2).2.2; omega
     ·rw [own_old i hi'] at h1
      by_cases hj' : j ∈ ids ++ news
      ·obtain ⟨k', kl', e1', e2'⟩ := own_new j hj'
       rw [e2'] at h2
       obtain ⟨s1, s2, s3⟩ := hsep k' b h2
       rcases s2 with s2 | s2
       ·exact holdS i b (fun hh => hi' (List.mem_append_left _ hh)) h1 s2
       ·have := (h.sep i b h1).2.2; omega
      ·rw [own_old j hj'] at h2
       exact h.own i j b hij h1 h2
    ·simp only at hb
     by_cases hi' : i ∈ ids ++ news
     ·obtain ⟨k, kl, e1, e2⟩ := own_new i hi'
      rw [e2] at hb
      obtain ⟨s1, s2, s3⟩ := hsep k b hb
      refine ⟨s1, ?_, s3⟩
      rcases s2 with s2 | s2
      ·obtain ⟨j, _, hj'⟩ := hSown b s2
       exact (h.sep j b hj').2.1
      ·exact .inr (Nat.le_trans h.kp.size s2)
     ·rw [own_old i hi'] at hb
      obtain ⟨s1, s2, s3⟩ := h.sep i b hb
      refine ⟨fun hI => ?_, s2, Nat.lt_of_lt_of_le s3 hkp.size⟩
      rcases j2 b hI with hI | hI | hI
      ·exact s1 hI
      ·exact holdS i b (fun hh => hi' (List.mem_append_left _ hh)) hb hI
      ·omega
    ·show (if i ∈ news then _ else M i) = _
     rw [if_neg (fun hn' => by have := (hng i hn').2; simp only at hi'; omega)]
     exact h.mm i hi'
   exact ⟨v, rfl, Kx.mk (hF.put (hr.mp hfwd) _) hk⟩
theorem vOp_sound (h : FRx cx Im M st a w) {o : Oper} (hv : vOp P o st K) : o.wp P a w (Kx cx K) Q := by
 unfold vOp at hv
 split at hv
 ·rename_i x ho; exact op_move h (.inl ho) hv
 ·rename_i x ho; exact op_move h (.inr ho) hv
 ·rename_i c x y ho
  split at hv
  ·rename_i t hc; exact op_pick h ho hc hv
  ·exact hv.elim
 ·rename_i e ho
  split at hv
  ·rename_i z hz
   obtain ⟨hs, hv⟩ := hv
   unfold vNew at hv
   split at hv
   ·rename_i t hd; exact op_alloc h ho hz hs hd hv.2.1 hv.2.2
   ·exact hv.elim
  ·exact hv.elim
 ·rename_i e x ho
  obtain ⟨hs, hv⟩ := hv
  unfold vNew at hv
  split at hv
  ·rename_i t hd; exact op_box h ho hs hd hv.2.1 hv.2.2
  ·exact hv.elim
 ·rename_i t parts ho
  split at hv
  ·rename_i z hz ha; exact op_build h ho hz hv.1 hv.2
  ·rename_i z n e hz ha; exact op_buildArr h ho hz (arrOf_some ha).1 hv.1 hv.2
  ·exact hv.elim
 ·rename_i t n parts ho
  split at hv
  ·rename_i e he
   obtain ⟨h1, h1', h2, h3, h4, hv⟩ := hv
   rw [List.map_map] at hv
   unfold vNew at hv
   split at hv
   ·rename_i d hd
    exact op_buildSlice h ho he (by rw [dense_range _ _ h1, List.length_map, h1', List.range_eq_range']) (by unfold lim2 at h2; exact h2) (fun p hp => fills_mem h3 _ (List.mem_map.2 ⟨p, hp, rfl⟩)) h4 hd hv.2.1 hv.2.2
   ·exact hv.elim
  ·exact hv.elim
 ·rename_i t x ho; exact op_load h ho hv
 ·rename_i t x y ho; exact op_store h ho hv
 ·rename_i x ho
  split at hv
  ·rename_i i f hx; exact op_nilCheck h ho hx (.inl ⟨_, _, rfl⟩) hv
  ·rename_i i j s f hx; exact op_nilCheck h ho hx (.inr (.inl ⟨_, _, _, _, rfl⟩)) hv
  ·rename_i cs hx; exact op_nilCheck h ho hx (.inr (.inr (.inl ⟨_, rfl⟩))) hv
  ·rename_i f cs hx; exact op_nilCheck h ho hx (.inr (.inr (.inr ⟨_, _, rfl⟩))) hv
  ·exact hv.elim
 ·rename_i op t x y ty ho; exact op_binOp h ho hv
 ·rename_i op t x ho
  split at hv
  ·rename_i b ho hx; exact op_not h ho hx hv
  ·rename_i k n ho hx; exact op_neg h ho hx hv
  ·exact hv.elim
 ·rename_i s t x ho
  split at hv
  ·rename_i d k j n h1 h2 hx; exact op_conv_int h ho h1 h2 hx hv
  ·rename_i d z h1 h2 hx; exact op_conv_str h ho h1 h2 hx hv
  ·rename_i e h1 h2 _; obtain ⟨he, l, hx, hk⟩ := hv; exact op_conv_bytes h ho h1 he h2 hx hk
  ·exact hv.elim
 ·rename_i f first caps ho; exact op_makeFunc h ho hv.1 hv.2
 ·rename_i t x lo hi mx ho
  rcases hv with hv | hv
  ·split at hv
   ·rename_i id e sz d hcut
    obtain ⟨⟨he, h0⟩, hd1, hun, hk⟩ := hv
    unfold ownCut at hcut
    split at hcut
    ·rename_i id' hh d' hx hdst
     split at hcut
     ·rename_i es hh0 hid
      simp only [Option.some.injEq, Prod.mk.injEq] at hcut
      obtain ⟨rfl, rfl, rfl, rfl⟩ := hcut
      exact op_cut h ho hdst hx hh0 hid he h0 hun hk
     ·cases hcut
    ·cases hcut
   ·exact op_slice h ho hv
  ·unfold vCut at hv
   split at hv
   ·rename_i id hh d hx hdst
    split at hv
    ·rename_i n e sz es hhv hid
     obtain ⟨h1, h2, he, h0, hd1, hun, hk⟩ := hv
     obtain ⟨m, rfl⟩ : ∃ m : Nat, n = m := ⟨n.toNat, by omega⟩
     exact op_cutn h ho hdst hx hhv (by omega) hid he h0 hun hk
    ·exact hv.elim
   ·exact hv.elim
 ·rename_i t x ho
  split at hv
  ·rename_i s hu hx
   unfold vNew at hv
   split at hv
   ·rename_i d hd
    exact op_range h ho hu hx hd hv.2.1 hv.2.2
   ·exact hv.elim
  ·exact hv.elim
 ·rename_i it ho
  split at hv
  ·rename_i id hx
   split at hv
   ·rename_i s p hid
    exact op_next h ho hx hid hv
   ·exact hv.elim
  ·exact hv.elim
 ·rename_i t l c ho
  split at hv
  ·rename_i e k n k' m he hl hc
   split at hv
   ·rename_i z hz
    obtain ⟨rfl, h0, h1, h2, hok, hv⟩ := hv
    unfold lim2 at h1
    unfold lim at h2
    unfold vNew at hv
    split at hv
    ·rename_i d hd
     exact op_makeSlice h ho he hl hc h0 h1 h2 hok hz hd hv.2.1 hv.2.2
    ·exact hv.elim
   ·exact hv.elim
  ·exact hv.elim
 ·rename_i s x f ho
  split at hv
  ·rename_i off ag n id p hf hx; exact op_fieldAddr h ho hf hv.1 hx (.inl ⟨_, _, rfl, rfl⟩) hv.2
  ·rename_i off ag n cs hf hx; exact op_fieldAddr h ho hf hv.1 hx (.inr (.inl ⟨_, rfl, hv.2.1, rfl⟩)) hv.2.2
  ·rename_i off ag n id i sz fo hf hx; exact op_fieldAddr h ho hf hv.1 hx (.inr (.inr ⟨_, _, _, _, rfl, rfl⟩)) hv.2
  ·exact hv.elim
 ·rename_i t x f ho
  split at hv
  ·rename_i off ag n cs hf hx; exact op_field h ho hf hx hv
  ·exact hv.elim
 ·rename_i t x i ho
  split at hv
  ·rename_i e id k n he hx hi
   split at hv
   ·rename_i e' sz es hid
    obtain ⟨rfl, h0, h1, h2, hk⟩ := hv
    exact op_indexAddr h ho he hi h0 h1 hx (.inl ⟨id, e', es, rfl, hid, h2, rfl⟩) hk
   ·rename_i es hid
    obtain ⟨h1, h2, h3, h0, hk⟩ := hv
    exact op_indexAddr h ho he hi h0 h1 hx (.inr (.inl ⟨id, es, rfl, hid, h2, h3, rfl⟩)) hk
   ·exact hv.elim
  ·rename_i e f es k n he hx hi
   obtain ⟨h1, h2, h3, h0, hk⟩ := hv
   exact op_indexAddr h ho he hi h0 h1 hx (.inr (.inr ⟨f, es, rfl, h2, h3, rfl⟩)) hk
  ·rename_i id p k n he hx hi
   split at hv
   ·rename_i len e ha
    obtain ⟨hu, _⟩ := arrOf_some ha
    exact op_indexArr h ho hu hi hv.1 hv.2.1 hv.2.2.1 rfl hx (.inl ⟨_, _, rfl, rfl⟩) hv.2.2.2
   ·exact hv.elim
  ·rename_i id j sz p k n he hx hi
   split at hv
   ·rename_i len e ha
    obtain ⟨hu, _⟩ := arrOf_some ha
    exact op_indexArr h ho hu hi hv.1 hv.2.1 hv.2.2.1 rfl hx (.inr (.inr ⟨_, _, _, _, rfl, rfl⟩)) hv.2.2.2
   ·exact hv.elim
  ·rename_i cs k n he hx hi
   split at hv
   ·rename_i len e ha
    obtain ⟨hu, _⟩ := arrOf_some ha
    exact op_indexArr h ho hu hi hv.1 hv.2.1 hv.2.2.1 rfl hx (.inr (.inl ⟨_, rfl, hv.2.2.2.1, rfl⟩)) hv.2.2.2.2
   ·exact hv.elim
  ·exact hv.elim
 ·rename_i t x i ho
  split at hv
  ·rename_i s k n hu hx hi
   obtain ⟨h1, hv⟩ := hv
   split at hv
   ·rename_i b h2
    exact op_index h ho hu hx hi h1 h2 hv
   ·exact hv.elim
  ·rename_i len e cs k n hu hx hi
   obtain ⟨h1, h2, h3, h0, hk⟩ := hv
   obtain ⟨d, hd⟩ := Option.isSome_iff_exists.1 h3
   exact op_indexAgg h ho hu hd hi h1 h2 hx rfl h0 hk
  ·exact hv.elim
 ·rename_i x i ho
  split at hv
  ·rename_i cs hx
   split at hv
   ·rename_i c hc; exact op_extract h ho hx hc hv
   ·exact hv.elim
  ·exact hv.elim
 ·rename_i c ho
  obtain ⟨callee, args, ts⟩ := c
  split at hv
  ·rename_i b hb; simp only at hb; subst hb; exact vBuiltin_sound h ho hv
  ·rename_i f hf
   simp only at hf; subst hf
   split at hv
   ·rename_i g caps hg; exact vCall_sound h ho hg hv
   ·exact hv.elim
  ·exact hv.elim
 ·exact hv.elim
end Go.Proofs.YtodfkdnkgedgeaaT
