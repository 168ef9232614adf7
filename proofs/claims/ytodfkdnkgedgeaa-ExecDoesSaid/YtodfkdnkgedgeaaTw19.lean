/- Walks over the program's functions, on values without memory, and what they come to. No condition. -/
import Derived.Test.YtodfkdnkgedgeaaTw18
set_option linter.unusedVariables false
set_option linter.unusedSimpArgs false
namespace Go.Proofs.YtodfkdnkgedgeaaT
open Go Go.RowKit
variable {st : St}
def leLL : List (List AV) → List (List AV) → Prop
 | [], [] => True
 | x :: a, y :: b => leL x y ∧ leLL a b
 | _, _ => False
theorem leLL_at : ∀ {a b : List (List AV)}, leLL a b → a.length = b.length ∧ ∀ (i : Nat) x y, a[i]? = some x → b[i]? = some y → leL x y
 | [], [], _ => ⟨rfl, fun i x y h => by simp at h⟩
 | x :: a, y :: b, h => by
  obtain ⟨h1, h2⟩ := leLL_at h.2
  refine ⟨by simp [h1], fun i u v hu hv => ?_⟩
  cases i with
  | zero => simp at hu hv; subst hu hv; exact h.1
  | succ i => exact h2 i u v (by simpa using hu) (by simpa using hv)
 | [], _ :: _, h => h.elim
 | _ :: _, [], h => h.elim
theorem Sub_leArr {id e sz : Nat} {es fs : List (List AV)} (hid : st.heap[id]? = some (.arr e sz es)) (h : leLL es fs) : Sub st ⟨st.tmps, st.heap.set id (.arr e sz fs), st.k⟩ := by
 rintro cx a w ⟨Im, M, hF⟩
 obtain ⟨h1, h2⟩ := leLL_at h
 obtain ⟨v, xs, hm, hown, hc1, hc2, hc3⟩ := hF.ob id _ hid
 have hlt := (List.getElem?_eq_some_iff.1 hid).1
 have hch : Chunks Im w sz xs fs := by
  refine ⟨fun i y hi => ?_, hc2, fun i y j z hi hj => ?_⟩
  ·have hi' : i < es.length := by rw [h1]; exact (List.getElem?_eq_some_iff.1 hi).1
   have hx := List.getElem?_eq_getElem hi'
   exact (leL_at (h2 i _ y hx hi)).1.symm.trans (hc1 i _ hx)
  ·have hi' : i < es.length := by rw [h1]; exact (List.getElem?_eq_some_iff.1 hi).1
   have hx := List.getElem?_eq_getElem hi'
   obtain ⟨l1, l2⟩ := leL_at (h2 i _ y hx hi)
   have hj' : j < es[i].length := by rw [l1]; exact (List.getElem?_eq_some_iff.1 hj).1
   have hxj := List.getElem?_eq_getElem hj'
   obtain ⟨u, hu, hr⟩ := hc3 i _ j _ hx hxj
   exact ⟨u, hu, hr.le (l2 j _ z hxj hj)⟩
 by_cases hz : es = []
 ·subst hz
  have hf : fs = [] := List.eq_nil_of_length_eq_zero h1.symm
  subst hf
  have : st.heap.set id (.arr e sz []) = st.heap := by
   refine List.ext_getElem? fun i => ?_
   by_cases hi : i = id
   ·subst hi; rw [List.getElem?_set_self hlt, hid]
   ·rw [List.getElem?_set_ne (Ne.symm hi)]
  rw [this]
  exact ⟨Im, M, hF⟩
 ·have hpos : 0 < es.length := List.length_pos_iff.2 hz
  obtain ⟨g, hg⟩ : ∃ g, v.ownBlock = some g := by
   rcases owns_block hown with ⟨_, h3, _⟩ | ⟨g, c, _, h3, _⟩
   ·omega
   ·exact ⟨g, h3⟩
  refine ⟨Im, M, hF.write (id := id) (b := g) (w' := w) ((ownB_arr hid hm).trans hg) rfl rfl rfl rfl (fun _ _ => rfl) (o := .arr e sz fs) ⟨v, xs, hm, h1 ▸ hown, hch⟩ (fun c hc => ?_)⟩
  have := ownB_arr (M := M) (List.getElem?_set_self (a := HO.arr e sz fs) hlt) hm
  rw [this, hg] at hc
  cases hc; rfl
end Go.Proofs.YtodfkdnkgedgeaaT
