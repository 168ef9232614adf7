/- Walks over the program's functions, on values without memory, and what they come to. No condition. -/
import Derived.Test.YtodfkdnkgedgeaaTw17
set_option linter.unusedVariables false
set_option linter.unusedSimpArgs false
namespace Go.Proofs.YtodfkdnkgedgeaaT
open Go Go.RowKit
variable {cx : Cx} {Im : Nat → Prop} {M : Nat → Option Value} {st : St} {a : Act} {w : World} {P : Program} {K : St → Prop} {Q : Exit → St → Prop}
def enterH (n : Nat) (args : List AV) (hin : List HO) : St := ⟨args ++ List.replicate (n - args.length) .junk, hin ++ List.replicate n .un, hin.length⟩
def FinH (P : Program) (rs : Array ResultVar) (k : Nat) (res : AV) (hout : List HO) (e : Exit) (st : St) : Prop :=
 (e = .normal ∨ e = .ret) ∧ st.k = k ∧ vRes P rs.toList st fun l => ∃ pos : List Nat, nodupB pos = true ∧ pos.take k = List.range k ∧ le (vl st.heap (oneRes l)) (mp (fun i => pos.getD i st.heap.length) res) ∧ matchH st.heap (fun i => pos.getD i st.heap.length) pos hout
theorem enterH_FR {Im0 : Nat → Prop} {M0 : Nat → Option Value} {n : Nat} {vs : Array Value} {args : List AV} {hin : List HO} (hs : vs.size = args.length) (hr : ∀ (i : Nat) v x, vs[i]? = some v → args[i]? = some x → R Im0 w M0 v x) (hl : ∀ b, Im0 b → b < w.heap.size)
  (ho : ∀ (i : Nat) o, hin[i]? = some o → RO Im0 w M0 i o) (hM : ∀ i, hin.length ≤ i → M0 i = none) (hap : Apart hin M0) (hsp : ∀ i b, ownB hin M0 i = some b → ¬ Im0 b ∧ b < w.heap.size) :
  FRx ⟨w, Im0, fun b => ∃ i, ownB hin M0 i = some b, M0⟩ Im0 M0 (enterH n args hin) { tmps := vs ++ Array.replicate (n - vs.size) undef, defers := [] } w := by
 have hown : ∀ i, ownB (hin ++ List.replicate n .un) M0 i = ownB hin M0 i := by
  intro i
  unfold ownB
  rcases Nat.lt_or_ge i hin.length with hi | hi
  ·rw [List.getElem?_append_left hi]
  ·rw [List.getElem?_append_right hi, List.getElem?_eq_none hi, List.getElem?_replicate]
   split
   ·rename_i h1 _; split at h1 <;> cases h1
   ·rename_i h1 _; split at h1 <;> cases h1
   ·rename_i h1 _; split at h1 <;> cases h1
   ·rfl
 refine ⟨Keeps.refl _ _, fun _ h => h, fun _ h => .inl h, hl, by simp [enterH, hs], fun i x hx => ?_, fun i o hio => ?_, fun i hi => hM i ?_, fun i j b hij h1 h2 => ?_, fun i b hb => ?_, fun _ _ => rfl, rfl⟩
 ·simp only [enterH] at hx
  rcases Nat.lt_or_ge i args.length with hi | hi
  ·rw [List.getElem?_append_left hi] at hx
   have hi' : i < vs.size := by omega
   exact ⟨vs[i], by rw [Array.getElem?_append_left hi', Array.getElem?_eq_getElem hi'], hr i _ x (Array.getElem?_eq_getElem hi') hx⟩
  ·rw [List.getElem?_append_right hi] at hx
   have hlt := (List.getElem?_eq_some_iff.1 hx).1
   simp only [List.length_replicate] at hlt
   have : x = .junk := List.eq_of_mem_replicate (List.mem_of_getElem? hx)
   subst this
   exact ⟨undef, by rw [Array.getElem?_append_right (by omega), Array.getElem?_replicate, if_pos (by omega)], .junk _⟩
 ·simp only [enterH] at hio
  rcases Nat.lt_or_ge i hin.length with hi | hi
  ·rw [List.getElem?_append_left hi] at hio
   exact ho i o hio
  ·rw [List.getElem?_append_right hi, List.getElem?_replicate] at hio
   split at hio
   ·cases hio; exact hM i hi
   ·cases hio
 ·simp only [enterH, List.length_append] at hi; omega
 ·simp only [enterH] at h1 h2
  rw [hown] at h1 h2
  exact hap i j b hij h1 h2
 ·simp only [enterH] at hb
  rw [hown] at hb
  obtain ⟨h1, h2⟩ := hsp i b hb
  exact ⟨h1, .inl ⟨i, hb⟩, h2⟩
theorem RetH_of_body {g : FuncId} {fn : Func} {c : Code} {args : List AV} {hin hout : List HO} {res : AV} (hf : P.funcs[g]? = some fn) (hn : (fn.name == "runtime.NumGoroutine") = false) (hb : fn.body = some c)
  (hkl : hin.length ≤ hout.length) (h : TW P c (FinH P fn.results hin.length res hout) (enterH fn.ntmps args hin)) : RetH P g args hin res hout := by
 refine ⟨⟨fn, hf, hn, by rw [hb]; rfl⟩, fun w Im M vs hl hs hr ho hM hap hsp => ?_⟩
 refine calls_of_wp hf hb (wp_mono (h.run ⟨w, Im, fun b => ∃ i, ownB hin M i = some b, M⟩ _ w ⟨Im, _, enterH_FR hs hr hl ho hM hap hsp⟩) ?_)
 rintro ex a' w' ⟨st', ⟨he, hkk, hv⟩, I1, M1, hF⟩
 obtain ⟨v, l, h1, h2, pos, p1, p2, p3, p4⟩ := results_sound hF hv
 have hnd := nodupB_iff p1
 obtain ⟨m1, m2⟩ := matchH_get p4
 obtain ⟨q, hqd⟩ : ∃ q : Nat → Nat, q = fun i => pos.getD i st'.heap.length := ⟨_, rfl⟩
 rw [← hqd] at p3 m2
 have hq : ∀ k o, hout[k]? = some o → pos[k]? = some (q k) ∧ st'.heap[q k]? = some (mpO q o) := by
  intro k o ho
  obtain ⟨i, e1, e2⟩ := m2 k o ho
  have : q k = i := by rw [hqd]; simp only [List.getD_eq_getElem?_getD, e1, Option.getD_some]
  rw [this]; exact ⟨e1, e2⟩
 have hqout : ∀ k, hout.length ≤ k → M1 (q k) = none := by
  intro k hk'
  refine hF.out _ ?_
  rw [hqd]; simp only [List.getD_eq_getElem?_getD, List.getElem?_eq_none (show pos.length ≤ k by omega), Option.getD_none]
  exact Nat.le_refl _
 have hown : ∀ k, ownB hout (fun i => M1 (q i)) k = if k < hout.length then ownB st'.heap M1 (q k) else none := by
  intro k
  by_cases hkl : k < hout.length
  ·rw [if_pos hkl]
   have ho := List.getElem?_eq_getElem hkl
   exact (ownB_mp (M := fun i => M1 (q i)) (N := M1) ho (hq k _ ho).2 rfl).symm
  ·rw [if_neg hkl]
   unfold ownB
   rw [List.getElem?_eq_none (by omega)]
 have qinj : ∀ i j, i < hout.length → j < hout.length → i ≠ j → q i ≠ q j := by
  intro i j h1 h2 hij e
  have e1 := (hq i _ (List.getElem?_eq_getElem h1)).1
  have e2 := (hq j _ (List.getElem?_eq_getElem h2)).1
  rw [e] at e1
  exact hij ((List.getElem?_inj (by omega) hnd).1 (e1.trans e2.symm))
 have hq0 : ∀ i, i < hin.length → q i = i := by
  intro i hi
  have : pos[i]? = some i := by
   have := congrArg (fun l => l[i]?) p2
   simp only [List.getElem?_take, if_pos hi, List.getElem?_range hi] at this
   exact this
  rw [hqd]; simp only [List.getD_eq_getElem?_getD, this, Option.getD_some]
 have hR : R I1 w' (fun i => M1 (q i)) v res := R.unmp res ((vl_sound hF h2).le p3)
 have post : bodyPost P fn (fun ex w' => ∃ v Im' M', ex = .returned v ∧ Keeps (fun b => ∃ i, ownB hin M i = some b) w w' ∧ (∀ b, Im b → Im' b) ∧ (∀ b, Im' b → Im b ∨ (∃ i, ownB hin M i = some b) ∨ w.heap.size ≤ b) ∧ (∀ b, Im' b → b < w'.heap.size) ∧
   R Im' w' M' v res ∧ (∀ (i : Nat) o, hout[i]? = some o → RO Im' w' M' i o) ∧ (∀ i, hout.length ≤ i → M' i = none) ∧ Apart hout M' ∧
   (∀ i b, ownB hout M' i = some b → ¬ Im' b ∧ ((∃ i, ownB hin M i = some b) ∨ w.heap.size ≤ b) ∧ b < w'.heap.size) ∧ ∀ i, i < hin.length → M' i = M i) .ret a' w' := by
  refine ⟨hF.df, v, h1, v, I1, fun i => M1 (q i), rfl, hF.kp, hF.im0, hF.im1, hF.imlt, hR, fun i o ho => RO.unmp (hF.ob _ _ (hq i o ho).2), hqout, fun i j b hij e1 e2 => ?_, fun i b hb => ?_, fun i hi => ?_⟩
  ·rw [hown] at e1 e2
   split at e1
   ·split at e2
    ·rename_i hi hj
     exact hF.own _ _ b (qinj i j hi hj hij) e1 e2
    ·cases e2
   ·cases e1
  ·rw [hown] at hb
   split at hb
   ·exact hF.sep _ b hb
   ·cases hb
  ·show M1 (q i) = M i
   rw [hq0 i hi]
   exact hF.mm i (by rw [hkk]; exact hi)
 rcases he with rfl | rfl <;> exact post
theorem Sub_ibox (id : Nat) {cs : List AV} (hid : st.heap[id]? = some (.box cs)) (hp : AV.pures cs = true) : Sub st ⟨st.tmps, st.heap.set id (.ibox cs), st.k⟩ := by
 rintro cx a w ⟨Im, M, h⟩
 obtain ⟨b, vs, ty, hm, hblk, hsz, hone, hrr⟩ := h.ob id _ hid
 have hob := ownB_box hid hm
 have hlt := (List.getElem?_eq_some_iff.1 hid).1
 have hI : ∀ c, Im c → Im c ∨ c = b := fun _ h => .inl h
 have hget : ∀ i, (st.heap.set id (.ibox cs))[i]? = if i = id then some (.ibox cs) else st.heap[i]? := by
  intro i
  by_cases hi : i = id
  ·subst hi; rw [if_pos rfl, List.getElem?_set_self hlt]
  ·rw [if_neg hi, List.getElem?_set_ne (Ne.symm hi)]
 have hownS : ∀ i c, ownB (st.heap.set id (.ibox cs)) M i = some c → ownB st.heap M i = some c ∧ i ≠ id := by
  intro i c hc
  unfold ownB at hc ⊢
  rw [hget] at hc
  by_cases hi : i = id
  ·rw [if_pos hi] at hc; cases hc
  ·rw [if_neg hi] at hc; exact ⟨hc, hi⟩
 refine ⟨fun c => Im c ∨ c = b, M, h.kp, fun c hc => .inl (h.im0 c hc), ?_, ?_, h.tl, fun i x hx => let ⟨v, hv, hr⟩ := h.tm i x hx; ⟨v, hv, hr.im hI⟩, fun i o hio => ?_, fun i hi => h.out i (by simpa using hi), fun i j c hij h1 h2 => h.own i j c hij (hownS i c h1).1 (hownS j c h2).1, fun i c hc => ?_, h.mm, h.df⟩
 ·rintro c (hc | rfl)
  ·exact h.im1 c hc
  ·exact .inr (h.sep id _ hob).2.1
 ·rintro c (hc | rfl)
  ·exact h.imlt c hc
  ·exact (h.sep id _ hob).2.2
 ·simp only at hio
  rw [hget] at hio
  by_cases hi : i = id
  ·subst hi
   rw [if_pos rfl] at hio
   cases hio
   refine ⟨b, hm, .cptr ⟨b, 0, none⟩ cs (fun j => vs.getD j undef) (.inr rfl) (fun j y hj => ?_) (fun j y hj => ?_) (fun j y hj => ?_)⟩
   all_goals
    have hj' : j < vs.size := by have := (List.getElem?_eq_some_iff.1 hj).1; omega
   ·rw [add_lit, Nat.zero_add, cell_heap hblk]; simp [hj']
   ·simp only [Array.getD_eq_getD_getElem?, Array.getElem?_eq_getElem hj', Option.getD_some]
    exact hone _ (Array.getElem_mem hj')
   ·simp only [Array.getD_eq_getD_getElem?, Array.getElem?_eq_getElem hj', Option.getD_some]
    exact (R_pure (hrr j _ y (Array.getElem?_eq_getElem hj') hj) (pures_at j y hp hj)).im hI
  ·rw [if_neg hi] at hio
   exact (h.ob i o hio).mono hI (fun _ _ => rfl) (fun _ _ h => h) rfl ⟨fun _ _ _ _ => rfl, fun _ _ _ _ _ _ _ _ => rfl, fun _ _ _ _ _ => rfl⟩
 ·obtain ⟨h1, h2⟩ := hownS i c hc
  obtain ⟨h3, h4, h5⟩ := h.sep i c h1
  refine ⟨?_, h4, h5⟩
  rintro (hb | rfl)
  ·exact h3 hb
  ·exact h.own i id _ h2 h1 hob
theorem O1 : type_of% @Ops_one := @Ops_one
theorem O2 : type_of% @Ops_run := @Ops_run
theorem O3 : type_of% @Ops_off := @Ops_off
theorem O4 : type_of% @Ops_off0 := @Ops_off0
theorem Ea : type_of% @Ops_end := @Ops_end
theorem Eb : type_of% @TW_reg := @TW_reg
theorem Ec : type_of% @TW_reg1 := @TW_reg1
theorem Ed : type_of% @TW_skip := @TW_skip
theorem Ee : type_of% @TW_ret := @TW_ret
theorem Ef : type_of% @QThen_n := @QThen_n
theorem Eg : type_of% @QThen_r := @QThen_r
theorem Eh : type_of% @QThen_e := @QThen_e
theorem Ei : type_of% @QMid_r := @QMid_r
theorem Ej : type_of% @QMid_e := @QMid_e
theorem Ek : type_of% @QBlock_n := @QBlock_n
theorem El : type_of% @QBlock_r := @QBlock_r
theorem Em : type_of% @QBlock_e := @QBlock_e
theorem En : type_of% @QBlock_x := @QBlock_x
theorem Eo : type_of% @QLoop_r := @QLoop_r
theorem Ep : type_of% @QLoop_e := @QLoop_e
theorem Eq1 : type_of% @TW_seq := @TW_seq
theorem Er : type_of% @TW_block := @TW_block
theorem Es : type_of% @TW_exit := @TW_exit
theorem D1 : type_of% @Dq_one := @Dq_one
theorem D2 : type_of% @Dq_run := @Dq_run
theorem D3 : type_of% @Dq_may := @Dq_may
theorem D4 : type_of% @Dq_may2 := @Dq_may2
theorem D5 : type_of% @Dq_off := @Dq_off
theorem D6 : type_of% @Dq_off2 := @Dq_off2
theorem D7 : type_of% @Dq_off0 := @Dq_off0
theorem D8 : type_of% @Dq_end := @Dq_end
theorem D9 : type_of% @Ops_dq := @Ops_dq
theorem Tq : type_of% @TW_quiet := @TW_quiet
end Go.Proofs.YtodfkdnkgedgeaaT
