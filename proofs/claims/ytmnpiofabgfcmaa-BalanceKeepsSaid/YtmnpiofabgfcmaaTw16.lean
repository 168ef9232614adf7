/- Walks over the program's functions, on values without memory, and what they come to. No condition. -/
import Derived.Test.YtmnpiofabgfcmaaTw15
set_option linter.unusedVariables false
set_option linter.unusedSimpArgs false
namespace Go.Proofs.YtmnpiofabgfcmaaT
open Go Go.RowKit
variable {P : Program} {K : St → Prop} {st : St}
/-- A value that is there if p. -/
def AV.opt (p : Bool) (x : AV) : AV := if p = true then x else .tup []
theorem AV.opt_true (x : AV) : AV.opt true x = x := rfl
theorem AV.opt_false (x : AV) : AV.opt false x = .tup [] := rfl
theorem Ops_may {ops : Array Oper} {o : Oper} {r : List Oper} {j t : Nat} {b c : Bool} {x : AV} (hg : o.guard = some (j, b)) (ht : (ops[j]?).bind (·.dst) = some t) (hb : st.tmps.getD t .junk = .bool c)
    (h : c = b → ∀ N : St → Prop, (∀ st', st' = put st o.dst x → N st') → vOp P o st N) (k : Ops P ops r (put st o.dst (AV.opt (c == b) x)) K) : Ops P ops (o :: r) st K := by
  refine .mk ?_
  unfold vOps vGuard; rw [hg]; simp only [ht, hb]
  by_cases e : c = b
  · rw [if_pos e]
    refine h e _ fun st' hs => ?_
    subst hs
    have : (c == b) = true := by simpa using e
    rw [this] at k
    exact k.run
  · rw [if_neg e]
    have : (c == b) = false := by simpa using e
    rw [this] at k
    exact k.run
theorem Ops_may2 {ops : Array Oper} {o : Oper} {r : List Oper} {j t : Nat} {b c p : Bool} {x : AV} (hg : o.guard = some (j, b)) (ht : (ops[j]?).bind (·.dst) = some t) (hb : st.tmps.getD t .junk = AV.opt p (.bool c))
    (h : p = true → c = b → ∀ N : St → Prop, (∀ st', st' = put st o.dst x → N st') → vOp P o st N) (k : Ops P ops r (put st o.dst (AV.opt (p && (c == b)) x)) K) : Ops P ops (o :: r) st K := by
  cases p with
  | true => exact Ops_may hg ht hb (h rfl) (by simpa using k)
  | false => exact Ops_off0 hg ht hb (by simpa [AV.opt] using k)
/-- A nil slice is an empty one. -/
theorem Sub_nil (t : Nat) (ht : st.tmps[t]? = some .nils) : Sub st ⟨st.tmps.set t (.sl false []), st.heap, st.k⟩ := by
  rintro cx a w ⟨Im, M, hF⟩
  refine ⟨Im, M, hF.kp, hF.im0, hF.im1, hF.imlt, by simpa using hF.tl, fun i x hx => ?_, hF.ob, hF.out, hF.own, hF.sep, hF.mm, hF.df⟩
  by_cases hi : i = t
  · subst hi
    simp only [List.getElem?_set_self (List.getElem?_eq_some_iff.1 ht).1, Option.some.injEq] at hx
    subst hx
    obtain ⟨v, hv, hr⟩ := hF.tm i _ ht
    exact ⟨v, hv, hr.le (by simp [le])⟩
  · simp only [List.getElem?_set_ne (Ne.symm hi)] at hx
    exact hF.tm i x hx
theorem Ops_off2 {ops : Array Oper} {o : Oper} {r : List Oper} {j t : Nat} {b c p : Bool} (hg : o.guard = some (j, b)) (ht : (ops[j]?).bind (·.dst) = some t) (hb : st.tmps.getD t .junk = AV.opt p (.bool c)) (hc : (!c) = b)
    (k : Ops P ops r (put st o.dst (.tup [])) K) : Ops P ops (o :: r) st K := by
  cases p with
  | true => exact Ops_off hg ht hb hc k
  | false => exact Ops_off0 hg ht hb k
theorem QBlock_x {id id' : Nat} {Q : Exit → St → Prop} (h : (id' == id) = false) (k : Q (.exit id') st) : QBlock id Q (.exit id') st := by
  have : id' ≠ id := by simpa using h
  simpa [QBlock, this] using k
/-- A row of its own stays as it is from now on. -/
theorem Sub_fix (id : Nat) : Sub st ⟨st.tmps, fix st.heap id, st.k⟩ := by
  rintro cx a w ⟨Im, M, h⟩
  obtain ⟨Im', _, _, hF, _⟩ := fix_sound h id
  exact ⟨Im', M, hF⟩
theorem opt_or (c d : Bool) : (if c = true then AV.bool true else AV.opt (!c) (.bool d)) = .bool (c || d) := by cases c <;> rfl
theorem opt_orn (c d : Bool) : (if (!c) = true then AV.bool true else AV.opt c (.bool d)) = .bool (!c || d) := by cases c <;> rfl
theorem opt_and (c d : Bool) : (if c = true then AV.opt c (.bool d) else AV.bool false) = .bool (c && d) := by cases c <;> rfl
end Go.Proofs.YtmnpiofabgfcmaaT
