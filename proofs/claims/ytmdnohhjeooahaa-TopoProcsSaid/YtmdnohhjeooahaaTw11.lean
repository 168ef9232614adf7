/- Walks over the program's functions, on values without memory, and what they come to. No condition. -/
import Derived.Test.YtmdnohhjeooahaaTw10
set_option linter.unusedVariables false
set_option linter.unusedSimpArgs false
namespace Go.Proofs.YtmdnohhjeooahaaT
open Go Go.RowKit
variable {cx : Cx} {Im : Nat → Prop} {M : Nat → Option Value} {st : St} {a : Act} {w : World} {P : Program} {K : St → Prop} {Q : Exit → Act → World → Prop}

theorem exec_builtin {o : Oper} {b : Builtin} {args : Array Operand} {ts : Array TypeId} (ho : o.op = .call { callee := .builtin b, args, argTypes := ts }) :
    execOp a.eval o = builtin b ts o.type (args.map fun | .const _ => true | _ => false) (args.map a.eval) := by
  unfold execOp
  rw [ho]
  rfl

theorem toList_one {α : Type} {xs : Array α} {x : α} (h : xs.toList = [x]) : xs = #[x] := by apply Array.ext'; exact h
theorem toList_two {α : Type} {xs : Array α} {x y : α} (h : xs.toList = [x, y]) : xs = #[x, y] := by apply Array.ext'; exact h

theorem vBuiltin_sound (h : FRx cx Im M st a w) {o : Oper} {b : Builtin} {args : Array Operand} {ts : Array TypeId} (ho : o.op = .call { callee := .builtin b, args, argTypes := ts }) (hb : vBuiltin P b ts.toList (args.toList.map (ev st)) o.dst st K) : o.wp P a w (Kx cx K) Q := by
  have one : ∀ x, args.toList.map (ev st) = [x] → ∃ y, args = #[y] ∧ ev st y = x := by
    intro x hx
    obtain ⟨l⟩ := args
    match l, hx with
    | [y], hx => exact ⟨y, rfl, by simpa using hx⟩
  have two : ∀ x z, args.toList.map (ev st) = [x, z] → ∃ y y', args = #[y, y'] ∧ ev st y = x ∧ ev st y' = z := by
    intro x z hx
    obtain ⟨l⟩ := args
    match l, hx with
    | [y, y'], hx => simp at hx; exact ⟨y, y', rfl, hx.1, hx.2⟩
  generalize hargs : args.toList.map (ev st) = l at hb
  generalize htys : ts.toList = tl at hb
  unfold vBuiltin at hb
  split at hb
  · rename_i t s
    obtain ⟨hu, hk⟩ := hb
    obtain ⟨y, rfl, hy⟩ := one _ hargs
    have ht := toList_one htys
    subst ht
    have e1 := R_str (hy ▸ ev_sound h y)
    refine wp_val (v := .int .i64 s.size) (w' := w) ?_ (Kx.mk (h.put (.int _ _) _) hk)
    rw [exec_builtin ho]
    simp [builtin, Builtin.len_, run_underlying hu, e1, goInt]
  · rename_i t x _
    obtain ⟨y, rfl, hy⟩ := one _ hargs
    have ht := toList_one htys
    subst ht
    split at hb
    · rename_i e es he hes
      obtain ⟨o', c, e1, _⟩ := elems_len h (hy ▸ ev_sound h y) hes
      refine wp_val (v := .int .i64 es.length) (w' := w) ?_ (Kx.mk (h.put (.int _ _) _) hb)
      rw [exec_builtin ho]
      simp [builtin, Builtin.len_, run_underlying (elemOf_some he), e1, goInt]
    · exact hb.elim
  · rename_i k x k' y
    obtain ⟨rfl, hk⟩ := hb
    obtain ⟨p, q, rfl, hp, hq⟩ := two _ _ hargs
    have e1 := R_int (hp ▸ ev_sound h p)
    have e2 := R_int (hq ▸ ev_sound h q)
    refine wp_val (v := .int k (max x y)) (w' := w) ?_ (Kx.mk (h.put (.int _ _) _) hk)
    rw [exec_builtin ho]
    have : (if y > x then y else x) = max x y := by rw [Int.max_def]; split <;> split <;> omega
    simp only [builtin, Builtin.max_, List.map_toArray, List.map_cons, List.map_nil, e1, e2, List.foldlM_cons, List.foldlM_nil, Builtin.max2, Sem.run_bind, Sem.run_pure, Result.andThen_ok, this]
  · rename_i k x k' y
    obtain ⟨rfl, hk⟩ := hb
    obtain ⟨p, q, rfl, hp, hq⟩ := two _ _ hargs
    have e1 := R_int (hp ▸ ev_sound h p)
    have e2 := R_int (hq ▸ ev_sound h q)
    refine wp_val (v := .int k (min x y)) (w' := w) ?_ (Kx.mk (h.put (.int _ _) _) hk)
    rw [exec_builtin ho]
    have : (if y < x then y else x) = min x y := by rw [Int.min_def]; split <;> split <;> omega
    simp only [builtin, Builtin.min_, List.map_toArray, List.map_cons, List.map_nil, e1, e2, List.foldlM_cons, List.foldlM_nil, Builtin.min2, Sem.run_bind, Sem.run_pure, Result.andThen_ok, this]
  · rename_i ty ty' s x
    obtain ⟨p, q, rfl, hp, hq⟩ := two _ _ hargs
    split at hb
    · rename_i e xs d he hxs hd
      obtain ⟨rfl, hd1, hid, hok, hsz, hb⟩ := hb
      have hts := toList_two htys
      subst hts
      have hrs := ev_sound h p
      rw [hp] at hrs
      obtain ⟨ox, c, news, hv, hl, hcell, hch⟩ := elems_list h (hq ▸ ev_sound h q) hxs hok.1 hsz
      have fin : (∃ v' w', (Builtin.append_ #[ty', ty'] o.type #[a.eval p, a.eval q]).run P w = .ok v' w' ∧ Kx cx K (a.put (some d) v') w') → o.wp P a w (Kx cx K) Q := by
        rintro ⟨v', w', h1, h2⟩
        refine wp_val (v := v') (w' := w') ?_ (by rw [hd]; exact h2)
        rw [exec_builtin ho]
        simp only [builtin, List.map_toArray, List.map_cons, List.map_nil, Sem.run_bind, h1, Result.andThen_ok, Sem.run_pure]
      split at hb
      · obtain ⟨h1, h2, hk⟩ := hb
        have e1 := R_nils hrs
        rw [e1] at fin
        exact fin (app_own h he hok hid (es := []) (w.ownsRow_nil 0 e _) (Chunks.nil _) (fun b hb => by cases hb) hv hl hcell hch (by unfold lim at h1; simpa using h1) (by unfold lim at h2; simpa using h2) hk)
      · rename_i id
        split at hb
        · rename_i e' sz es hes
          obtain ⟨rfl, rfl, h1, h2, hk⟩ := hb
          obtain ⟨ob, n, cb, hvs, hm⟩ := R_bsl hrs
          obtain ⟨v', xs', k1, k2, k3⟩ := h.ob id _ hes
          rw [hm] at k1
          cases k1
          have hne : st.k + d ≠ id := fun e => by rw [e, hes] at hid; cases hid
          have hkill := h.kill id
          unfold lim at h1 h2
          refine fin (app_own (K := K) hkill he hok (d := d) (by simp only [hset]; rw [List.getElem?_set_ne (fun e => hne e.symm)]; exact hid) k2 k3 (fun b hb => ?_) hv hl hcell hch h1 h2 hk)
          have hob : ownB st.heap M id = some b := (ownB_arr hes hm).trans hb
          obtain ⟨s1, s2, s3⟩ := h.sep id b hob
          refine ⟨s1, s2, fun i hi => ?_⟩
          simp only [hset] at hi
          by_cases hii : i = id
          · subst hii
            unfold ownB at hi
            rw [List.getElem?_set_self (List.getElem?_eq_some_iff.1 hes).1] at hi
            simp at hi
          · rw [ownB_set_ne hii rfl] at hi
            exact h.own i id b hii hi hob
        · exact hb.elim
      · rename_i es
        obtain ⟨hne, hes, h1, h2, hk⟩ := hb
        unfold lim at h1 h2
        exact fin (app_full (K := K) h he hok hid hrs hes hv hl hcell hch hne h1 h2 hk)
      · exact hb.elim
    · exact hb.elim
  · exact hb.elim

theorem call_enters {g : FuncId} {fn : Func} (hf : P.funcs[g]? = some fn) (hname : (fn.name == "runtime.NumGoroutine") = false) (hb : fn.body.isSome = true) (args : Array Value) (w : World) : (callFunc g args).run P w = .ok (.enter g args) w := by
  have hnm : ¬ (fn.name = "runtime.NumGoroutine") := by simpa using hname
  cases hbb : fn.body with
  | none => rw [hbb] at hb; cases hb
  | some c =>
    unfold callFunc
    simp [hf, hnm, hbb]

theorem wp_call {o : Oper} {f : Operand} {args : Array Operand} {ts : Array TypeId} (ho : o.op = .call { callee := .value f, args, argTypes := ts }) {g : FuncId} (hg : Enters P g) {caps : Array Value} (hf : a.eval f = .func (.func g) #[] caps) {N : Act → World → Prop}
    (h : Calls P g (args.map a.eval ++ caps) w fun e w' => ∃ v, e = .returned v ∧ N (a.put o.dst v) w') : o.wp P a w N Q := by
  obtain ⟨fn, h1, h2, h3⟩ := hg
  have hr : (execOp a.eval o).run P w = .ok (.enter g (args.map a.eval ++ caps)) w := by
    unfold execOp
    rw [ho]
    simp only [resolve, hf, Deferred.ofValue, Sem.run_bind, Sem.run_pure, Result.andThen_ok, invoke, call_enters h1 h2 h3]
    simp [call_enters h1 h2 h3]
  unfold Oper.wp
  rw [hr]
  exact h.mono fun e w' ⟨v, he, hv⟩ => by subst he; exact hv

theorem R_scalar {v : Value} {x : AV} {Im' : Nat → Prop} {w' : World} {M' : Nat → Option Value} (hr : R Im w M v x) (hs : x.scalar = true) : R Im' w' M' v x := by
  cases x with
  | int k n => have := R_int hr; subst this; exact .int _ _
  | bool b => have := R_bool hr; subst this; exact .bool _
  | str s => have := R_str hr; subst this; exact .str _
  | nilp => cases hr; exact .nilp
  | nilf => cases hr; exact .nilf
  | nils => have := R_nils hr; subst this; exact .nils
  | _ => simp [AV.scalar] at hs
theorem R_scalars {v : Value} {x : AV} {Im' : Nat → Prop} {w' : World} {M' : Nat → Option Value} (hr : R Im w M v x) (hs : x.scalars = true) : R Im' w' M' v x := by
  cases x with
  | agg cs =>
    obtain ⟨vs, rfl, h1, h2, h3⟩ := R_agg hr
    exact .agg _ _ h1 h2 (fun i v c hv hc => R_scalar (h3 i v c hv hc) (List.all_eq_true.1 (by simpa [AV.scalars] using hs) c (List.mem_of_getElem? hc)))
  | tup cs =>
    obtain ⟨vs, rfl, h1, h3⟩ := R_tup hr
    exact .tup _ _ h1 (fun i v c hv hc => R_scalar (h3 i v c hv hc) (List.all_eq_true.1 (by simpa [AV.scalars] using hs) c (List.mem_of_getElem? hc)))
  | _ => exact R_scalar hr (by simpa [AV.scalars] using hs)

theorem ownB_nil {M : Nat → Option Value} {i : Nat} : ownB [] M i = none := by unfold ownB; simp

/-- Nothing that stands has turned; more stays. -/
theorem FRx.grow (h : FRx cx Im M st a w) {Im' : Nat → Prop} {w' : World} {S : Nat → Prop} (hS : ∀ b, ¬ S b) (hk : Keeps S w w') (hI : ∀ b, Im b → Im' b) (hI2 : ∀ b, Im' b → Im b ∨ w.heap.size ≤ b) (hl : ∀ b, Im' b → b < w'.heap.size) : FRx cx Im' M st a w' := by
  have hb : ∀ b, b < w.heap.size → w'.heap[b]? = w.heap[b]? := fun b hb => hk.block b hb (hS b)
  have hw : ∀ b, Im b → w'.heap[b]? = w.heap[b]? := fun b hb' => hb b (h.imlt b hb')
  refine ⟨h.kp.trans hk (fun i hi => absurd hi (hS i)), fun b hb => hI b (h.im0 b hb), fun b hb => ?_, hl, h.tl, fun i x hx => let ⟨v, hv, hr⟩ := h.tm i x hx; ⟨v, hv, hr.mono hI hw (fun _ _ h => h)⟩, fun i o ho => ?_, h.out, h.own, fun i b hb => ?_, h.mm, h.df⟩
  · rcases hI2 b hb with hb | hb
    · exact h.im1 b hb
    · exact .inr (.inr (Nat.le_trans h.kp.size hb))
  · exact (h.ob i o ho).mono hI hw (fun _ _ h => h) rfl ⟨fun b cs e hm => hb b (h.sep i b (ownB_box (e ▸ ho) hm)).2.2, fun e sz es v g he hm hg => hb g (h.sep i g ((ownB_arr (he ▸ ho) hm).trans hg)).2.2⟩
  · obtain ⟨h1, h2, h3⟩ := h.sep i b hb
    refine ⟨fun hi => ?_, h2, Nat.lt_of_lt_of_le h3 hk.size⟩
    rcases hI2 b hi with hi | hi
    · exact h1 hi
    · omega

theorem args_by_value {vs : Array Value} {cs ds : List AV} {Im' : Nat → Prop} {hp : List HO} (hs : vs.size = cs.length) (hr : ∀ (i : Nat) v c, vs[i]? = some v → cs[i]? = some c → R Im' w (fun _ => none) v (frz hp c)) (hl : leL (frzL hp cs) ds) :
    vs.size = ds.length ∧ ∀ (i : Nat) v d, vs[i]? = some v → ds[i]? = some d → R Im' w (fun _ => none) v d := by
  obtain ⟨h1, h2⟩ := leL_at hl
  obtain ⟨h3, h4⟩ := frzL_get hp cs
  refine ⟨by omega, fun i v d hv hd => ?_⟩
  have hi : i < (frzL hp cs).length := by have := (List.getElem?_eq_some_iff.1 hd).1; omega
  obtain ⟨c, hc, he, _⟩ := h4 i _ (List.getElem?_eq_getElem hi)
  exact (he ▸ hr i v c hv hc).le (h2 i _ d (List.getElem?_eq_getElem hi) hd)

theorem vCall_sound (h : FRx cx Im M st a w) {o : Oper} {f : Operand} {args : Array Operand} {ts : Array TypeId} (ho : o.op = .call { callee := .value f, args, argTypes := ts }) {g : FuncId} {caps : List AV} (hf : ev st f = .fn g caps) (hc : vCall P g (args.toList.map (ev st) ++ caps) o.dst st K) : o.wp P a w (Kx cx K) Q := by
  obtain ⟨cv, hfv, hcs, hcr⟩ := R_fn (hf ▸ ev_sound h f)
  obtain ⟨has, har⟩ := evs_sound h args
  have hsz : (args.map a.eval ++ cv).size = (args.toList.map (ev st) ++ caps).length := by rw [Array.size_append, List.length_append]; omega
  have hall : ∀ (i : Nat) v c, (args.map a.eval ++ cv)[i]? = some v → (args.toList.map (ev st) ++ caps)[i]? = some c → R Im w M v c := by
    intro i v c hv hc
    rcases Nat.lt_or_ge i (args.map a.eval).size with hi | hi
    · rw [Array.getElem?_append_left hi] at hv
      rw [List.getElem?_append_left (by omega)] at hc
      exact har i v c hv hc
    · rw [Array.getElem?_append_right hi] at hv
      rw [List.getElem?_append_right (by omega)] at hc
      exact hcr _ v c hv (by rw [has]; exact hc)
  generalize args.toList.map (ev st) ++ caps = l at hc hsz hall
  cases hc with
  | sc args' res hret ha hs hk =>
    obtain ⟨hent, hret⟩ := hret
    have hfz : ∀ (i : Nat) v c, (args.map a.eval ++ cv)[i]? = some v → l[i]? = some c → R (fun b => Im b ∨ ∃ i, ownB st.heap M i = some b) w (fun _ => none) v (frz st.heap c) := fun i v c hv hc =>
      frz_sound h (fun _ h => .inl h) (hall i v c hv hc) (fun id _ e sz es b he hb => .inr ⟨id, hb⟩)
    obtain ⟨k1, k2⟩ := args_by_value hsz hfz ha
    refine wp_call ho hent hfv ((hret w (fun b => Im b ∨ ∃ i, ownB st.heap M i = some b) (fun _ => none) _ (fun b hb => ?_) k1 k2 (fun i o h => by simp at h) (fun _ _ => rfl) (fun i j b _ h => by rw [ownB_nil] at h; cases h) (fun i b h => by rw [ownB_nil] at h; cases h)).mono ?_)
    · rcases hb with hb | ⟨i, hb⟩
      · exact h.imlt b hb
      · exact (h.sep i b hb).2.2
    · rintro e w' ⟨v, Im', M', rfl, hkp, _, _, _, hr, _⟩
      have hS : ∀ b, ¬ ∃ i, ownB ([] : List HO) (fun _ => (none : Option Value)) i = some b := by rintro b ⟨i, hi⟩; rw [ownB_nil] at hi; cases hi
      have hg := h.grow (Im' := Im) hS hkp (fun _ h => h) (fun _ h => .inl h) (fun b hb => Nat.lt_of_lt_of_le (h.imlt b hb) hkp.size)
      exact ⟨v, rfl, Kx.mk (hg.put (R_scalars hr hs) _) hk⟩
  | pu args' res hret ha hk =>
    obtain ⟨hent, hret⟩ := hret
    obtain ⟨I1, hI, hI2, hF, hfr⟩ := freeze h l
    have hfz : ∀ (i : Nat) v c, (args.map a.eval ++ cv)[i]? = some v → l[i]? = some c → R I1 w (fun _ => none) v (frz st.heap c) := fun i v c hv hc =>
      hfr v c (hall i v c hv hc) (fun id hid => namesL_mem (List.mem_of_getElem? hc) hid)
    obtain ⟨k1, k2⟩ := args_by_value hsz hfz ha
    refine wp_call ho hent hfv ((hret w I1 (fun _ => none) _ hF.imlt k1 k2 (fun i o h => by simp at h) (fun _ _ => rfl) (fun i j b _ h => by rw [ownB_nil] at h; cases h) (fun i b h => by rw [ownB_nil] at h; cases h)).mono ?_)
    rintro e w' ⟨v, Im', M', rfl, hkp, j1, j2, j3, hr, _, hM, _⟩
    have hS : ∀ b, ¬ ∃ i, ownB ([] : List HO) (fun _ => (none : Option Value)) i = some b := by rintro b ⟨i, hi⟩; rw [ownB_nil] at hi; cases hi
    have hg := hF.grow hS hkp j1 (fun b hb => (j2 b hb).imp id (fun h => h.resolve_left (hS b))) j3
    have hMn : M' = fun _ => none := funext fun i => hM i (Nat.zero_le _)
    subst hMn
    exact ⟨v, rfl, Kx.mk (hg.put hr.pure0 _) hk⟩
  | ar args' e sz es t hd ht hret ha hu hk =>
    obtain ⟨hent, hret⟩ := hret
    obtain ⟨I1, hI, hI2, hF, hfr⟩ := freeze h l
    have hfz : ∀ (i : Nat) v c, (args.map a.eval ++ cv)[i]? = some v → l[i]? = some c → R I1 w (fun _ => none) v (frz st.heap c) := fun i v c hv hc =>
      hfr v c (hall i v c hv hc) (fun id hid => namesL_mem (List.mem_of_getElem? hc) hid)
    obtain ⟨k1, k2⟩ := args_by_value hsz hfz ha
    refine wp_call ho hent hfv ((hret w I1 (fun _ => none) _ hF.imlt k1 k2 (fun i o h => by simp at h) (fun _ _ => rfl) (fun i j b _ h => by rw [ownB_nil] at h; cases h) (fun i b h => by rw [ownB_nil] at h; cases h)).mono ?_)
    rintro e' w' ⟨v, Im', M', rfl, hkp, j1, j2, j3, hr, hob, hM, _, hsep, _⟩
    have hS : ∀ b, ¬ ∃ i, ownB ([] : List HO) (fun _ => (none : Option Value)) i = some b := by rintro b ⟨i, hi⟩; rw [ownB_nil] at hi; cases hi
    have hg := hF.grow hS hkp j1 (fun b hb => (j2 b hb).imp id (fun h => h.resolve_left (hS b))) j3
    have hun : (frzHL st.heap l)[st.k + t]? = some .un := fixes_un _ hu
    obtain ⟨oo, n, c, hv, hm0⟩ := R_bsl hr
    obtain ⟨v', xs, m1, m2, m3⟩ := hob 0 (.arr e sz es) rfl
    rw [hm0] at m1
    cases m1
    have hn := hg.new (st := { st with heap := frzHL st.heap l }) hun (Nat.le_add_right _ _) (w' := w') hg.kp (Nat.le_refl _) (fun _ _ => rfl) (fun _ _ _ => rfl) v (.arr e sz es) ⟨v, xs, by simp, m2, m3⟩ (fun b hb => by
      unfold ownB at hb
      rw [List.getElem?_set_self (List.getElem?_eq_some_iff.1 hun).1] at hb
      simp only [if_true] at hb
      have hob0 : ownB [HO.arr e sz es] M' 0 = some b := (ownB_arr (h := [HO.arr e sz es]) (id := 0) rfl hm0).trans hb
      obtain ⟨s1, s2, s3⟩ := hsep 0 b hob0
      have s4 := s2.resolve_left (hS b)
      exact ⟨s1, .inr (Nat.le_trans h.kp.size s4), s3, fun i hi => by have := (hF.sep i b hi).2.2; omega⟩)
    refine ⟨v, rfl, ?_⟩
    rw [hd]
    have hv2 : R Im' w' (fun j => if j = st.k + t then some v else M j) v (.bsl (st.k + t)) := by rw [hv]; exact .bsl _ _ _ _ (by simp [hv])
    exact Kx.mk (hn.put hv2 (some t)) hk

/-- EVERY OPERATION. -/
theorem vOp_sound (h : FRx cx Im M st a w) {o : Oper} (hv : vOp P o st K) : o.wp P a w (Kx cx K) Q := by
  unfold vOp at hv
  split at hv
  · rename_i x ho; exact op_move h (.inl ho) hv
  · rename_i x ho; exact op_move h (.inr ho) hv
  · rename_i c x y ho
    split at hv
    · rename_i t hc; exact op_pick h ho hc hv
    · exact hv.elim
  · rename_i e ho
    split at hv
    · rename_i z hz
      obtain ⟨hs, hv⟩ := hv
      unfold vNew at hv
      split at hv
      · rename_i t hd; exact op_alloc h ho hz hs hd hv.2.1 hv.2.2
      · exact hv.elim
    · exact hv.elim
  · rename_i e x ho
    obtain ⟨hs, hv⟩ := hv
    unfold vNew at hv
    split at hv
    · rename_i t hd; exact op_box h ho hs hd hv.2.1 hv.2.2
    · exact hv.elim
  · rename_i t parts ho
    split at hv
    · rename_i z hz ha; exact op_build h ho hz hv.1 hv.2
    · rename_i z n e hz ha; exact op_buildArr h ho hz (arrOf_some ha).1 hv.1 hv.2
    · exact hv.elim
  · rename_i t n parts ho
    split at hv
    · rename_i e he
      obtain ⟨h1, h1', h2, h3, h4, hv⟩ := hv
      rw [List.map_map] at hv
      unfold vNew at hv
      split at hv
      · rename_i d hd
        exact op_buildSlice h ho he (by rw [dense_range _ _ h1, List.length_map, h1', List.range_eq_range']) (by unfold lim2 at h2; exact h2) (fun p hp => fills_mem h3 _ (List.mem_map.2 ⟨p, hp, rfl⟩)) h4 hd hv.2.1 hv.2.2
      · exact hv.elim
    · exact hv.elim
  · rename_i t x ho; exact op_load h ho hv
  · rename_i t x y ho; exact op_store h ho hv
  · rename_i x ho
    split at hv
    · rename_i i f hx; exact op_nilCheck h ho hx (.inl ⟨_, _, rfl⟩) hv
    · rename_i i j s f hx; exact op_nilCheck h ho hx (.inr (.inl ⟨_, _, _, _, rfl⟩)) hv
    · rename_i cs hx; exact op_nilCheck h ho hx (.inr (.inr (.inl ⟨_, rfl⟩))) hv
    · rename_i f cs hx; exact op_nilCheck h ho hx (.inr (.inr (.inr ⟨_, _, rfl⟩))) hv
    · exact hv.elim
  · rename_i op t x y ty ho; exact op_binOp h ho hv
  · rename_i op t x ho
    split at hv
    · rename_i b ho hx; exact op_not h ho hx hv
    · rename_i k n ho hx; exact op_neg h ho hx hv
    · exact hv.elim
  · rename_i s t x ho
    split at hv
    · rename_i d k j n h1 h2 hx; exact op_conv_int h ho h1 h2 hx hv
    · rename_i d z h1 h2 hx; exact op_conv_str h ho h1 h2 hx hv
    · exact hv.elim
  · rename_i f first caps ho; exact op_makeFunc h ho hv.1 hv.2
  · rename_i t x lo hi mx ho; exact op_slice h ho hv
  · rename_i s x f ho
    split at hv
    · rename_i off ag n id p hf hx; exact op_fieldAddr h ho hf hv.1 hx (.inl ⟨_, _, rfl, rfl⟩) hv.2
    · rename_i off ag n cs hf hx; exact op_fieldAddr h ho hf hv.1 hx (.inr (.inl ⟨_, rfl, hv.2.1, rfl⟩)) hv.2.2
    · rename_i off ag n id i sz fo hf hx; exact op_fieldAddr h ho hf hv.1 hx (.inr (.inr ⟨_, _, _, _, rfl, rfl⟩)) hv.2
    · exact hv.elim
  · rename_i t x f ho
    split at hv
    · rename_i off ag n cs hf hx; exact op_field h ho hf hx hv
    · exact hv.elim
  · rename_i t x i ho
    split at hv
    · rename_i e id k n he hx hi
      split at hv
      · rename_i e' sz es hid
        obtain ⟨rfl, h0, h1, h2, hk⟩ := hv
        exact op_indexAddr h ho he hi h0 h1 hx (.inl ⟨id, e', es, rfl, hid, h2, rfl⟩) hk
      · rename_i es hid
        obtain ⟨h1, h2, h3, h0, hk⟩ := hv
        exact op_indexAddr h ho he hi h0 h1 hx (.inr (.inl ⟨id, es, rfl, hid, h2, h3, rfl⟩)) hk
      · exact hv.elim
    · rename_i e f es k n he hx hi
      obtain ⟨h1, h2, h3, h0, hk⟩ := hv
      exact op_indexAddr h ho he hi h0 h1 hx (.inr (.inr ⟨f, es, rfl, h2, h3, rfl⟩)) hk
    · rename_i id p k n he hx hi
      split at hv
      · rename_i len e ha
        obtain ⟨hu, _⟩ := arrOf_some ha
        exact op_indexArr h ho hu hi hv.1 hv.2.1 hv.2.2.1 rfl hx (.inl ⟨_, _, rfl, rfl⟩) hv.2.2.2
      · exact hv.elim
    · rename_i id j sz p k n he hx hi
      split at hv
      · rename_i len e ha
        obtain ⟨hu, _⟩ := arrOf_some ha
        exact op_indexArr h ho hu hi hv.1 hv.2.1 hv.2.2.1 rfl hx (.inr (.inr ⟨_, _, _, _, rfl, rfl⟩)) hv.2.2.2
      · exact hv.elim
    · rename_i cs k n he hx hi
      split at hv
      · rename_i len e ha
        obtain ⟨hu, _⟩ := arrOf_some ha
        exact op_indexArr h ho hu hi hv.1 hv.2.1 hv.2.2.1 rfl hx (.inr (.inl ⟨_, rfl, hv.2.2.2.1, rfl⟩)) hv.2.2.2.2
      · exact hv.elim
    · exact hv.elim
  · rename_i t x i ho
    split at hv
    · rename_i s k n hu hx hi
      obtain ⟨b, h1, h2, hk⟩ := hv
      exact op_index h ho hu hx hi h1 h2 hk
    · rename_i len e cs k n hu hx hi
      obtain ⟨h1, h2, h3, h0, hk⟩ := hv
      obtain ⟨d, hd⟩ := Option.isSome_iff_exists.1 h3
      exact op_indexAgg h ho hu hd hi h1 h2 hx rfl h0 hk
    · exact hv.elim
  · rename_i x i ho
    split at hv
    · rename_i cs hx
      split at hv
      · rename_i c hc; exact op_extract h ho hx hc hv
      · exact hv.elim
    · exact hv.elim
  · rename_i c ho
    obtain ⟨callee, args, ts⟩ := c
    split at hv
    · rename_i b hb; simp only at hb; subst hb; exact vBuiltin_sound h ho hv
    · rename_i f hf
      simp only at hf; subst hf
      split at hv
      · rename_i g caps hg; exact vCall_sound h ho hg hv
      · exact hv.elim
    · exact hv.elim
  · exact hv.elim
end Go.Proofs.YtmdnohhjeooahaaT
