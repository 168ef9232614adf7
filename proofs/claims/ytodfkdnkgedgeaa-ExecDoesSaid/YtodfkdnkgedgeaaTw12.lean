/- Walks over the program's functions, on values without memory, and what they come to. No condition. -/
import Derived.Test.YtodfkdnkgedgeaaTw11
import Derived.ScopeJumps
set_option linter.unusedVariables false
set_option linter.unusedSimpArgs false
namespace Go.Proofs.YtodfkdnkgedgeaaT
open Go Go.RowKit
variable {cx : Cx} {Im : Nat → Prop} {M : Nat → Option Value} {st : St} {a : Act} {w : World} {P : Program} {K : St → Prop}
def Nx (cx : Cx) (K : St → Prop) : Exit → Act → World → Prop
 | .normal, a, w => Kx cx K a w
 | _, _, _ => False
theorem vGuard_sound {ops : Array Oper} {i : Nat} {o : Oper} (ho : ops[i]? = some o) {Q : Exit → Act → World → Prop} (h : FR cx st a w) (hv : vGuard P ops o st K) {N : Act → World → Prop} (hN : ∀ a w, Kx cx K a w → N a w) : wpOp P ops Q i N a w := by
 obtain ⟨Im, M, h⟩ := h
 unfold wpOp
 rw [ho]
 simp only
 unfold vGuard at hv
 split at hv
 ·rename_i hg
  have : Region.wanted o (yielded ops a.tmps) = true := by simp [Region.wanted, hg]
  rw [if_pos this]
  exact .inl (Oper.wp_mono hN (vOp_sound h hv))
 ·rename_i j want hg
  split at hv
  ·rename_i t ht
   split at hv
   ·rename_i b hb
    have hy : yielded ops a.tmps j = some b := by
     unfold yielded
     rw [ht]
     have hlt : t < st.tmps.length := by
      rcases Nat.lt_or_ge t st.tmps.length with hl | hl
      ·exact hl
      ·rw [List.getD_eq_getElem?_getD, List.getElem?_eq_none hl] at hb; cases hb
     obtain ⟨v, hv', hr⟩ := h.tm t _ (List.getElem?_eq_getElem hlt)
     rw [List.getD_eq_getElem?_getD, List.getElem?_eq_getElem hlt] at hb
     simp only [Option.getD_some] at hb
     rw [hb] at hr
     have := R_bool hr
     subst this
     simp [hv']
    by_cases hbw : b = want
    ·rw [if_pos hbw] at hv
     have : Region.wanted o (yielded ops a.tmps) = true := by simp [Region.wanted, hg, hy, hbw]
     rw [if_pos this]
     exact .inl (Oper.wp_mono hN (vOp_sound h hv))
    ·rw [if_neg hbw] at hv
     have : Region.wanted o (yielded ops a.tmps) = false := by simp [Region.wanted, hg, hy, hbw]
     rw [this]
     simp only [Bool.false_eq_true, if_false]
     exact hN _ _ (Kx.mk (h.put (R.tup #[] [] rfl fun i v c hv _ => by simp at hv) _) hv)
   ·rename_i hb
    have hy : yielded ops a.tmps j = none := by
     unfold yielded
     rw [ht]
     have hlt : t < st.tmps.length := by
      rcases Nat.lt_or_ge t st.tmps.length with hl | hl
      ·exact hl
      ·rw [List.getD_eq_getElem?_getD, List.getElem?_eq_none hl] at hb; cases hb
     obtain ⟨v, hv', hr⟩ := h.tm t _ (List.getElem?_eq_getElem hlt)
     rw [List.getD_eq_getElem?_getD, List.getElem?_eq_getElem hlt] at hb
     simp only [Option.getD_some] at hb
     rw [hb] at hr
     cases hr
     simp [hv']
    have : Region.wanted o (yielded ops a.tmps) = false := by simp [Region.wanted, hg, hy]
    rw [this]
    simp only [Bool.false_eq_true, if_false]
    exact hN _ _ (Kx.mk (h.put (R.tup #[] [] rfl fun i v c hv _ => by simp at hv) _) hv)
   ·exact hv.elim
  ·exact hv.elim
theorem vOps_sound {ops : Array Oper} : ∀ (os : List Oper) (i : Nat), ops.toList.drop i = os → ∀ {st : St} {a : Act} {w : World}, FR cx st a w → vOps P ops os st K → wpOps P ops (Nx cx K) ((List.range ops.size).drop i) a w
 | [], i, hd, st, a, w, h, hv => by
  have : ops.size ≤ i := by
   have := congrArg List.length hd
   simp at this
   omega
  rw [List.drop_eq_nil_of_le (by simp; omega)]
  exact ⟨st, hv, h⟩
 | o :: os, i, hd, st, a, w, h, hv => by
  have hi : i < ops.size := by
   rcases Nat.lt_or_ge i ops.size with hl | hl
   ·exact hl
   ·rw [List.drop_eq_nil_of_le (by simp; omega)] at hd; cases hd
  have ho : ops[i]? = some o := by
   have := congrArg (fun l => l[0]?) hd
   simpa using this
  have hd' : ops.toList.drop (i + 1) = os := by
   have := congrArg List.tail hd
   simpa using this
  have hr : (List.range ops.size).drop i = i :: (List.range ops.size).drop (i + 1) := by
   rw [List.drop_eq_getElem_cons (by simpa using hi)]
   simp
  rw [hr, wpOps_cons]
  exact vGuard_sound ho h hv (fun a' w' hk => by
   obtain ⟨st', hk, hf⟩ := hk
   exact vOps_sound os (i + 1) hd' hf hk)
structure TW (P : Program) (c : Code) (Q : Exit → St → Prop) (st : St) : Prop where
 mk :: (run : ∀ cx a w, FR cx st a w → c.wp P (fun e a' w' => ∃ st', Q e st' ∧ FR cx st' a' w') a w)
structure Ops (P : Program) (ops : Array Oper) (os : List Oper) (st : St) (K : St → Prop) : Prop where
 mk :: (run : vOps P ops os st K)
section
variable {Q Q' : Exit → St → Prop} {c x y : Code}
theorem TW.mono (h : TW P c Q st) (hq : ∀ e st, Q e st → Q' e st) : TW P c Q' st := .mk fun cx a w hf => wp_mono (h.run cx a w hf) fun e a w ⟨st', h1, h2⟩ => ⟨st', hq e st' h1, h2⟩
theorem TW_skip (h : Q .normal st) : TW P .skip Q st := .mk fun _ _ _ hf => wp_skip ⟨st, h, hf⟩
theorem TW_label {l : Nat} (h : Q .normal st) : TW P (.label l) Q st := .mk fun _ _ _ hf => wp_label ⟨st, h, hf⟩
theorem TW_exit {id : Nat} (h : Q (.exit id) st) : TW P (.exit id) Q st := .mk fun _ _ _ hf => wp_exit ⟨st, h, hf⟩
theorem TW_goto {l : Nat} (h : Q (.goto l) st) : TW P (.goto l) Q st := .mk fun _ _ _ hf => wp_goto ⟨st, h, hf⟩
theorem TW_ret (h : Q .ret st) : TW P .ret Q st := .mk fun _ _ _ hf => wp_ret ⟨st, h, hf⟩
def QThen (P : Program) (y : Code) (Q : Exit → St → Prop) : Exit → St → Prop
 | .normal, st => TW P y Q st
 | e, st => Q e st
theorem TW_seq (h : TW P x (QThen P y Q) st) : TW P (.seq x y) Q st := by
 refine .mk fun cx a w hf => ?_
 refine wp_seq (wp_mono (h.run cx a w hf) ?_)
 rintro e a' w' ⟨st', h1, h2⟩
 cases e with
 | normal => exact h1.run cx a' w' h2
 | _ => exact ⟨st', h1, h2⟩
theorem TW_cond {o : Operand} {b : Bool} (ho : ev st o = .bool b) (ht : b = true → TW P x Q st) (hf : b = false → TW P y Q st) : TW P (.cond o x y) Q st := by
 refine .mk fun cx a w hfr => ?_
 obtain ⟨Im, M, h⟩ := hfr
 have he := R_bool (ho ▸ ev_sound h o)
 exact wp_cond_split he (fun hb => (ht hb).run cx a w ⟨Im, M, h⟩) (fun hb => (hf hb).run cx a w ⟨Im, M, h⟩)
def QBlock (id : Nat) (Q : Exit → St → Prop) : Exit → St → Prop
 | .exit id', st => if id' = id then Q .normal st else Q (.exit id') st
 | e, st => Q e st
theorem TW_block {id : Nat} (h : TW P c (QBlock id Q) st) : TW P (.block id c) Q st := by
 refine .mk fun cx a w hf => ?_
 refine wp_block (wp_mono (h.run cx a w hf) ?_)
 rintro e a' w' ⟨st', h1, h2⟩
 cases e with
 | exit id' =>
  simp only [QBlock] at h1
  simp only [Exit.inBlock]
  split at h1
  ·rename_i he; rw [if_pos he]; exact ⟨st', h1, h2⟩
  ·rename_i he; rw [if_neg he]; exact ⟨st', h1, h2⟩
 | _ => exact ⟨st', h1, h2⟩
def Sub (st st' : St) : Prop := ∀ cx a w, FR cx st a w → FR cx st' a w
theorem Sub.refl (st : St) : Sub st st := fun _ _ _ h => h
theorem Sub.trans {st st' st'' : St} (h : Sub st st') (k : Sub st' st'') : Sub st st'' := fun cx a w hf => k cx a w (h cx a w hf)
def QLoop (I : Nat → St → Prop) (n : Nat) (Q : Exit → St → Prop) : Exit → St → Prop
 | .normal, st => ∃ m st', m < n ∧ I m st' ∧ Sub st st'
 | e, st => Q e st
theorem TW_loop (I : Nat → St → Prop) {n : Nat} (h0 : I n st) (h : ∀ n st, I n st → TW P c (QLoop I n Q) st) : TW P (.loop c) Q st := by
 classical
 refine .mk fun cx a w hf => ?_
 have hex : ∀ a w, (∃ n, ∃ st, I n st ∧ FR cx st a w) → ∃ n, (∃ st, I n st ∧ FR cx st a w) ∧ ∀ m, m < n → ¬ ∃ st, I m st ∧ FR cx st a w := by
  rintro a w ⟨n, hn⟩
  induction n using Nat.strongRecOn with
  | _ n ih =>
   by_cases hm : ∃ m, m < n ∧ ∃ st, I m st ∧ FR cx st a w
   ·obtain ⟨m, h1, h2⟩ := hm
    exact ih m h1 h2
   ·exact ⟨n, hn, fun m h1 h2 => hm ⟨m, h1, h2⟩⟩
 let μ : Act → World → Nat := fun a w => if hh : ∃ n, ∃ st, I n st ∧ FR cx st a w then Classical.choose (hex a w hh) else 0
 refine wp_loop (fun a w => ∃ n, ∃ st, I n st ∧ FR cx st a w) μ ⟨n, st, h0, hf⟩ ?_
 intro a w hI
 obtain ⟨⟨st1, h1, h2⟩, hmin⟩ := Classical.choose_spec (hex a w hI)
 have hμ : μ a w = Classical.choose (hex a w hI) := dif_pos hI
 refine wp_mono ((h _ st1 h1).run cx a w h2) ?_
 rintro e a' w' ⟨st', k1, k2⟩
 cases e with
 | normal =>
  obtain ⟨m, st'', hm, hIm, hsub⟩ := k1
  have k3 := hsub cx a' w' k2
  have hI' : ∃ n, ∃ st, I n st ∧ FR cx st a' w' := ⟨m, st'', hIm, k3⟩
  refine ⟨hI', ?_⟩
  have hμ' : μ a' w' = Classical.choose (hex a' w' hI') := dif_pos hI'
  rw [hμ, hμ']
  have := (Classical.choose_spec (hex a' w' hI')).2 m
  rcases Nat.lt_or_ge m (Classical.choose (hex a' w' hI')) with hlt | hge
  ·exact absurd ⟨st'', hIm, k3⟩ (this hlt)
  ·omega
 | _ => exact ⟨st', k1, k2⟩
theorem TW_region {id : Nat} {ops : Array Oper} (h : vOps P ops ops.toList st fun st' => Q .normal st') : TW P (.region id ops false) Q st := by
 refine .mk fun cx a w hf => ?_
 refine wp_mono (wp_region (Q := Nx cx fun st' => Q .normal st') ?_) ?_
 ·have := vOps_sound (cx := cx) (ops := ops) ops.toList 0 (by simp) hf h
  simpa using this
 ·intro e a' w' hn
  cases e with
  | normal => obtain ⟨st', h1, h2⟩ := hn; exact ⟨st', h1, h2⟩
  | _ => exact hn.elim
theorem Ops_one {ops : Array Oper} {o : Oper} {r : List Oper} (hg : o.guard = none) (h : ∀ N : St → Prop, (∀ st', Ops P ops r st' K → N st') → vOp P o st N) : Ops P ops (o :: r) st K := by
 refine .mk ?_
 unfold vOps vGuard; rw [hg]; exact h _ fun _ h => h.run
theorem Ops_run {ops : Array Oper} {o : Oper} {r : List Oper} {j t : Nat} {b : Bool} (hg : o.guard = some (j, b)) (ht : (ops[j]?).bind (·.dst) = some t) (hb : st.tmps.getD t .junk = .bool b) (h : ∀ N : St → Prop, (∀ st', Ops P ops r st' K → N st') → vOp P o st N) : Ops P ops (o :: r) st K := by
 refine .mk ?_
 unfold vOps vGuard; rw [hg]; simp only [ht, hb, if_true]; exact h _ fun _ h => h.run
theorem Ops_off {ops : Array Oper} {o : Oper} {r : List Oper} {j t : Nat} {b c : Bool} (hg : o.guard = some (j, b)) (ht : (ops[j]?).bind (·.dst) = some t) (hb : st.tmps.getD t .junk = .bool c) (hc : (!c) = b) (h : Ops P ops r (put st o.dst (.tup [])) K) : Ops P ops (o :: r) st K := by
 have : c ≠ b := by cases c <;> cases b <;> simp_all
 refine .mk ?_
 unfold vOps vGuard; rw [hg]; simp only [ht, hb, if_neg this]; exact h.run
theorem Ops_off0 {ops : Array Oper} {o : Oper} {r : List Oper} {j t : Nat} {b : Bool} (hg : o.guard = some (j, b)) (ht : (ops[j]?).bind (·.dst) = some t) (hb : st.tmps.getD t .junk = .tup []) (h : Ops P ops r (put st o.dst (.tup [])) K) : Ops P ops (o :: r) st K := by
 refine .mk ?_
 unfold vOps vGuard; rw [hg]; simp only [ht, hb]; exact h.run
theorem Ops_eq {ops : Array Oper} {r : List Oper} {st' : St} (h : st = st') (k : Ops P ops r st' K) : Ops P ops r st K := h ▸ k
theorem Ops_end {ops : Array Oper} (h : K st) : Ops P ops [] st K := .mk h
theorem TW_reg {id : Nat} {l : List Oper} {rest : Code} (h : Ops P l.toArray l st (fun st' => TW P rest Q st')) : TW P (.seq (.region id l.toArray false) rest) Q st := TW_seq (TW_region h.run)
theorem TW_reg1 {id : Nat} {l : List Oper} (h : Ops P l.toArray l st (fun st' => Q .normal st')) : TW P (.region id l.toArray false) Q st := TW_region h.run
def QMid (J : St → Prop) (Q : Exit → St → Prop) : Exit → St → Prop
 | .normal, st => ∃ st', J st' ∧ Sub st st'
 | e, st => Q e st
theorem QMid_r {J : St → Prop} (h : Q .ret st) : QMid J Q .ret st := h
theorem QMid_e {J : St → Prop} {id : Nat} (h : Q (.exit id) st) : QMid J Q (.exit id) st := h
theorem QThen_n {y : Code} (h : TW P y Q st) : QThen P y Q .normal st := h
theorem QThen_r {y : Code} (h : Q .ret st) : QThen P y Q .ret st := h
theorem QThen_e {y : Code} {id : Nat} (h : Q (.exit id) st) : QThen P y Q (.exit id) st := h
theorem QBlock_n {id : Nat} (h : Q .normal st) : QBlock id Q .normal st := h
theorem QBlock_r {id : Nat} (h : Q .ret st) : QBlock id Q .ret st := h
theorem QBlock_e {id : Nat} (h : Q .normal st) : QBlock id Q (.exit id) st := by simpa [QBlock] using h
theorem QLoop_r {I : Nat → St → Prop} {n : Nat} (h : Q .ret st) : QLoop I n Q .ret st := h
theorem QLoop_e {I : Nat → St → Prop} {n id : Nat} (h : Q (.exit id) st) : QLoop I n Q (.exit id) st := h
theorem TW_sub {st' : St} (hs : Sub st st') (h : TW P c Q st') : TW P c Q st := .mk fun cx a w hf => h.run cx a w (hs cx a w hf)
def QJump (l : Nat) (I : Nat → St → Prop) (n : Nat) (Q : Exit → St → Prop) : Exit → St → Prop
 | .goto l', st => l' = l ∧ ∃ m st', m < n ∧ I m st' ∧ Sub st st'
 | e, st => Q e st
theorem QJump_r {l n : Nat} {I : Nat → St → Prop} (h : Q .ret st) : QJump l I n Q .ret st := h
theorem QJump_e {l n id : Nat} {I : Nat → St → Prop} (h : Q (.exit id) st) : QJump l I n Q (.exit id) st := h
theorem QThen_g {y : Code} {l : Nat} (h : Q (.goto l) st) : QThen P y Q (.goto l) st := h
theorem QMid_g {J : St → Prop} {l : Nat} (h : Q (.goto l) st) : QMid J Q (.goto l) st := h
theorem QBlock_g {id l : Nat} (h : Q (.goto l) st) : QBlock id Q (.goto l) st := h
end
theorem loadAt_addr {t : TypeId} {v u : Value} (h : (Instr.loadAt t v).run P w = .ok u w) : (do loadVar t (← asAddr v)).run P w = .ok u w := by
 cases v with
 | pointer p =>
  cases p with
  | some ad => simpa [Instr.loadAt, Instr.sureAddr, asAddr] using h
  | none => simp [Instr.loadAt, Instr.sureAddr] at h
 | _ => simp [Instr.loadAt, Instr.sureAddr] at h
def resF (tmps : Array Value) : ResultVar → Sem Value
 | .tmp t => pure (tmps.getD t undef)
 | .cell q t => do loadVar t (← asAddr (tmps.getD q undef))
theorem vRes_sound (h : FRx cx Im M st a w) : ∀ (rs : List ResultVar) {N : List AV → Prop}, vRes P rs st N → ∃ vs l, (rs.mapM (resF a.tmps)).run P w = .ok vs w ∧ vs.length = l.length ∧ (∀ (i : Nat) v x, vs[i]? = some v → l[i]? = some x → R Im w M v x) ∧ N l
 | [], N, hv => ⟨[], [], rfl, rfl, fun i v x h => by simp at h, hv⟩
 | .tmp t :: rs, N, hv => by
  obtain ⟨vs, l, h1, h2, h3, h4⟩ := vRes_sound h rs hv
  have hr := ev_sound h (.tmp t)
  refine ⟨a.tmps.getD t undef :: vs, _ :: l, ?_, by simp [h2], fun i v x hv hx => ?_, h4⟩
  ·rw [List.mapM_cons]
   simp only [resF, Sem.run_bind, Sem.run_pure, Result.andThen_ok, h1]
  ·cases i with
   | zero => simp at hv hx; subst hv; subst hx; simpa [Act.eval, ev] using hr
   | succ i => exact h3 i v x (by simpa using hv) (by simpa using hx)
 | .cell q t :: rs, N, hv => by
  have hr := ev_sound h (.tmp q)
  obtain ⟨u, y, k1, k2, k3⟩ := vLoad_sound h hr hv
  obtain ⟨vs, l, h1, h2, h3, h4⟩ := vRes_sound h rs k3
  refine ⟨u :: vs, y :: l, ?_, by simp [h2], fun i v x hv hx => ?_, h4⟩
  ·rw [List.mapM_cons]
   have := loadAt_addr k1
   simp only [Act.eval] at this
   rw [Sem.run_bind, show resF a.tmps (.cell q t) = (do loadVar t (← asAddr (a.tmps.getD q undef))) from rfl, this]
   simp only [Sem.run_bind, Sem.run_pure, Result.andThen_ok, h1]
  ·cases i with
   | zero => simp at hv hx; subst hv; subst hx; exact k2
   | succ i => exact h3 i v x (by simpa using hv) (by simpa using hx)
theorem results_sound (h : FRx cx Im M st a w) {fn : Func} {N : List AV → Prop} (hv : vRes P fn.results.toList st N) : ∃ v l, (results fn a.tmps).run P w = .ok v w ∧ R Im w M v (oneRes l) ∧ N l := by
 obtain ⟨vs, l, h1, h2, h3, h4⟩ := vRes_sound h _ hv
 refine ⟨if hh : vs.toArray.size = 1 then vs.toArray[0] else .tuple vs.toArray, l, ?_, ?_, h4⟩
 ·rw [show results fn a.tmps = (do let vs ← fn.results.mapM (resF a.tmps); pure (if h : vs.size = 1 then vs[0] else .tuple vs)) from rfl, Array.mapM_eq_mapM_toList]
  simp only [Sem.run_bind, Sem.run_map, h1, Result.andThen_ok, Sem.run_pure]
 ·match vs, l, h2, h3 with
  | [v], [x], _, h3 => simpa [oneRes] using h3 0 v x rfl rfl
  | [], [], _, _ => exact .tup _ _ rfl (fun i v c hv => by simp at hv)
  | v :: v' :: vs, x :: x' :: l, h2, h3 =>
   rw [dif_neg (by simp)]
   exact .tup _ _ (by simpa using h2) (fun i v c hv hc => h3 i v c (by simpa using hv) hc)
theorem enter_FR {Im0 : Nat → Prop} {n : Nat} {vs : Array Value} {args : List AV} (hs : vs.size = args.length) (hr : ∀ (i : Nat) v x, vs[i]? = some v → args[i]? = some x → R Im0 w (fun _ => none) v x) (hl : ∀ b, Im0 b → b < w.heap.size) :
  FRx ⟨w, Im0, fun _ => False, fun _ => none⟩ Im0 (fun _ => none) (enterSt n args) { tmps := vs ++ Array.replicate (n - vs.size) undef, defers := [] } w := by
 refine ⟨Keeps.refl _ _, fun _ h => h, fun _ h => .inl h, hl, by simp [enterSt, hs], fun i x hx => ?_, fun i o ho => ?_, fun _ _ => rfl, fun i j b _ hi => ?_, fun i b hb => ?_, fun _ _ => rfl, rfl⟩
 ·simp only [enterSt] at hx
  rcases Nat.lt_or_ge i args.length with hi | hi
  ·rw [List.getElem?_append_left hi] at hx
   have hi' : i < vs.size := by omega
   exact ⟨vs[i], by rw [Array.getElem?_append_left hi', Array.getElem?_eq_getElem hi'], hr i _ x (Array.getElem?_eq_getElem hi') hx⟩
  ·rw [List.getElem?_append_right hi] at hx
   have hlt := (List.getElem?_eq_some_iff.1 hx).1
   simp only [List.length_replicate] at hlt
   have : x = .junk := by
    have := List.mem_of_getElem? hx
    exact List.eq_of_mem_replicate this
   subst this
   exact ⟨undef, by rw [Array.getElem?_append_right (by omega), Array.getElem?_replicate, if_pos (by omega)], .junk _⟩
 ·simp only [enterSt] at ho
  rw [List.getElem?_replicate] at ho
  split at ho
  ·cases ho; rfl
  ·cases ho
 ·exfalso
  simp only [enterSt] at hi
  unfold ownB at hi
  rw [List.getElem?_replicate] at hi
  split at hi <;> simp_all
 ·exfalso
  simp only [enterSt] at hb
  unfold ownB at hb
  rw [List.getElem?_replicate] at hb
  split at hb <;> simp_all
theorem Ret_of_body {g : FuncId} {fn : Func} {c : Code} {args : List AV} {res : AV} (hf : P.funcs[g]? = some fn) (hn : (fn.name == "runtime.NumGoroutine") = false) (hb : fn.body = some c) (h : TW P c (Fin P fn.results res) (enterSt fn.ntmps args)) : Ret P g args res := by
 refine ⟨⟨fn, hf, hn, by rw [hb]; rfl⟩, fun w Im M vs hl hs hr _ hM _ _ => ?_⟩
 have hMn : M = fun _ => none := funext fun i => hM i (Nat.zero_le _)
 subst hMn
 refine calls_of_wp hf hb (wp_mono (h.run ⟨w, Im, fun _ => False, fun _ => none⟩ _ w ⟨Im, _, enter_FR hs hr hl⟩) ?_)
 rintro e a' w' ⟨st', ⟨he, hv⟩, I1, M1, hF⟩
 obtain ⟨v, l, h1, h2, h3⟩ := results_sound hF hv
 obtain ⟨I2, j1, j2, hF2, j4⟩ := fixes_sound (names (oneRes l)) hF
 have hR : R I2 w' (fun _ => none) v res := (frz_sound hF j1 h2 j4).le h3
 have hkp : Keeps (fun b => ∃ i, ownB ([] : List HO) (fun _ => (none : Option Value)) i = some b) w w' := ⟨hF.kp.os, hF.kp.tape, hF.kp.output, hF.kp.size, fun k hk _ => hF.kp.block k hk (fun h => h)⟩
 have post : bodyPost P fn (fun e w' => ∃ v Im' M', e = .returned v ∧ Keeps (fun b => ∃ i, ownB ([] : List HO) (fun _ => (none : Option Value)) i = some b) w w' ∧ (∀ b, Im b → Im' b) ∧ (∀ b, Im' b → Im b ∨ (∃ i, ownB ([] : List HO) (fun _ => (none : Option Value)) i = some b) ∨ w.heap.size ≤ b) ∧ (∀ b, Im' b → b < w'.heap.size) ∧
   R Im' w' M' v res ∧ (∀ (i : Nat) o, ([] : List HO)[i]? = some o → RO Im' w' M' i o) ∧ (∀ i, ([] : List HO).length ≤ i → M' i = none) ∧ Apart [] M' ∧
   (∀ i b, ownB [] M' i = some b → ¬ Im' b ∧ ((∃ i, ownB ([] : List HO) (fun _ => (none : Option Value)) i = some b) ∨ w.heap.size ≤ b) ∧ b < w'.heap.size) ∧ ∀ i, i < ([] : List HO).length → M' i = none) .ret a' w' := by
  refine ⟨hF.df, v, h1, v, I2, fun _ => none, rfl, hkp, fun b hb => j1 b (hF.im0 b hb), fun b hb => ?_, hF2.imlt, hR, fun i o ho => by simp at ho, fun _ _ => rfl, fun i j b _ hi => (by rw [ownB_nil] at hi; cases hi), fun i b hi => (by rw [ownB_nil] at hi; cases hi), fun i hi => (by simp at hi)⟩
  rcases j2 b hb with hb | ⟨i, hb⟩
  ·rcases hF.im1 b hb with h | h | h
   ·exact .inl h
   ·exact h.elim
   ·exact .inr (.inr h)
  ·rcases (hF.sep i b hb).2.1 with h | h
   ·exact h.elim
   ·exact .inr (.inr h)
 rcases he with rfl | rfl <;> exact post
theorem RetA_of_body {g : FuncId} {fn : Func} {c : Code} {args : List AV} {e sz : Nat} {es : List (List AV)} (hf : P.funcs[g]? = some fn) (hn : (fn.name == "runtime.NumGoroutine") = false) (hb : fn.body = some c) (h : TW P c (FinA P fn.results e sz es) (enterSt fn.ntmps args)) : RetH P g args [] (.bsl 0) [.arr e sz es] := by
 refine ⟨⟨fn, hf, hn, by rw [hb]; rfl⟩, fun w Im M vs hl hs hr _ hM _ _ => ?_⟩
 have hMn : M = fun _ => none := funext fun i => hM i (Nat.zero_le _)
 subst hMn
 refine calls_of_wp hf hb (wp_mono (h.run ⟨w, Im, fun _ => False, fun _ => none⟩ _ w ⟨Im, _, enter_FR hs hr hl⟩) ?_)
 rintro ex a' w' ⟨st', ⟨he, hv⟩, I1, M1, hF⟩
 obtain ⟨v, l, h1, h2, h34⟩ := results_sound hF hv
 obtain ⟨oo, n, c', hvv, xs, m2, m3, hob⟩ : ∃ oo n c', v = .slice oo n c' ∧ ∃ xs, w'.ownsRow 0 e sz v es.length xs ∧ Chunks I1 w' sz xs es ∧ ∀ b, v.ownBlock = some b → ∃ id, ownB st'.heap M1 id = some b := by
  rcases h34 with ⟨id, h3, h4⟩ | ⟨h3, h4⟩
  ·rw [h3] at h2
   obtain ⟨oo, n, c', hvv, hm⟩ := R_bsl h2
   obtain ⟨v', xs, m1, m2, m3⟩ := hF.ob id _ h4
   rw [hm] at m1
   cases m1
   exact ⟨oo, n, c', hvv, xs, m2, m3, fun b hb => ⟨id, (ownB_arr h4 hm).trans hb⟩⟩
  ·rw [h3] at h2
   have := R_nils h2
   subst this; subst h4
   exact ⟨none, 0, 0, rfl, [], w'.ownsRow_nil 0 e sz, Chunks.nil _, fun b hb => by cases hb⟩
 have hkp : Keeps (fun b => ∃ i, ownB ([] : List HO) (fun _ => (none : Option Value)) i = some b) w w' := ⟨hF.kp.os, hF.kp.tape, hF.kp.output, hF.kp.size, fun k hk _ => hF.kp.block k hk (fun h => h)⟩
 have hown : ∀ i b, ownB [HO.arr e sz es] (fun i => if i = 0 then some v else none) i = some b → ∃ id, ownB st'.heap M1 id = some b := by
  intro i b hb
  cases i with
  | zero => exact hob b (by simpa [ownB] using hb)
  | succ i => simp [ownB] at hb
 have post : bodyPost P fn (fun ex w' => ∃ v Im' M', ex = .returned v ∧ Keeps (fun b => ∃ i, ownB ([] : List HO) (fun _ => (none : Option Value)) i = some b) w w' ∧ (∀ b, Im b → Im' b) ∧ (∀ b, Im' b → Im b ∨ (∃ i, ownB ([] : List HO) (fun _ => (none : Option Value)) i = some b) ∨ w.heap.size ≤ b) ∧ (∀ b, Im' b → b < w'.heap.size) ∧
   R Im' w' M' v (.bsl 0) ∧ (∀ (i : Nat) o, [HO.arr e sz es][i]? = some o → RO Im' w' M' i o) ∧ (∀ i, [HO.arr e sz es].length ≤ i → M' i = none) ∧ Apart [.arr e sz es] M' ∧
   (∀ i b, ownB [.arr e sz es] M' i = some b → ¬ Im' b ∧ ((∃ i, ownB ([] : List HO) (fun _ => (none : Option Value)) i = some b) ∨ w.heap.size ≤ b) ∧ b < w'.heap.size) ∧ ∀ i, i < ([] : List HO).length → M' i = none) .ret a' w' := by
  refine ⟨hF.df, v, h1, v, I1, fun i => if i = 0 then some v else none, rfl, hkp, hF.im0, fun b hb => ?_, hF.imlt, by rw [hvv]; exact .bsl _ _ _ _ rfl, fun i o ho => ?_, fun i hi => ?_, fun i j b hij hi hj => ?_, fun i b hi => ?_, fun i hi => by simp at hi⟩
  ·rcases hF.im1 b hb with h | h | h
   ·exact .inl h
   ·exact h.elim
   ·exact .inr (.inr h)
  ·cases i with
   | zero => simp at ho; subst ho; exact ⟨v, xs, by simp, m2, m3⟩
   | succ i => simp at ho
  ·have : i ≠ 0 := by simp at hi; omega
   simp only [if_neg this]
  ·cases i with
   | zero =>
    cases j with
    | zero => exact absurd rfl hij
    | succ j => simp [ownB] at hj
   | succ i => simp [ownB] at hi
  ·obtain ⟨id, hid⟩ := hown i b hi
   obtain ⟨s1, s2, s3⟩ := hF.sep id b hid
   exact ⟨s1, .inr (s2.resolve_left (fun h => h)), s3⟩
 rcases he with rfl | rfl <;> exact post
end Go.Proofs.YtodfkdnkgedgeaaT
