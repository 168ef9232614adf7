/- Walks over the program's functions, on values without memory, and what they come to. No condition. -/
import Derived.Test.YtodfkdnkgedgeaaTw24
set_option linter.unusedVariables false
set_option linter.unusedSimpArgs false
namespace Go.Proofs.YtodfkdnkgedgeaaT
open Go Go.RowKit
variable {cx : Cx} {st : St} {a : Act} {w : World} {P : Program} {K : St → Prop} {Q : Exit → St → Prop}
def setIf (b : Nat → Bool) : List (Nat × Nat × AV) → List AV → List AV
 | [], ts => ts
 | (i, t, v) :: r, ts => setIf b r (ts.set t (if b i = true then v else ts.getD t .junk))
def setIfH (b : Nat → Bool) : List (Nat × Nat × HO) → List HO → List HO
 | [], ts => ts
 | (i, t, v) :: r, ts => setIfH b r (ts.set t (if b i = true then v else ts.getD t .un))
def setT : List (Nat × Nat × AV) → List AV → List AV
 | [], ts => ts
 | (_, t, v) :: r, ts => setT r (ts.set t v)
def setTH : List (Nat × Nat × HO) → List HO → List HO
 | [], ts => ts
 | (_, t, v) :: r, ts => setTH r (ts.set t v)
def setL : List (Nat × AV) → List AV → List AV
 | [], ts => ts
 | (t, v) :: r, ts => setL r (ts.set t v)
def setLH : List (Nat × HO) → List HO → List HO
 | [], ts => ts
 | (t, v) :: r, ts => setLH r (ts.set t v)
def St.At (st : St) (T : List (Nat × AV)) (H : List (Nat × HO)) : St := ⟨setL T st.tmps, setLH H st.heap, st.k⟩
def blankN : Nat → List AV → List AV
 | _, [] => []
 | m, x :: l => cond (m % 2 == 1) .junk x :: blankN (m / 2) l
theorem blankN_get : ∀ (m : Nat) (l : List AV), (blankN m l).length = l.length ∧ ∀ (i : Nat) x, (blankN m l)[i]? = some x → x = .junk ∨ l[i]? = some x
 | _, [] => ⟨rfl, fun i x h => by simp [blankN] at h⟩
 | m, y :: l => by
  obtain ⟨h1, h2⟩ := blankN_get (m / 2) l
  refine ⟨by simp [blankN, h1], fun i x h => ?_⟩
  cases i with
  | zero =>
   simp only [blankN, List.getElem?_cons_zero, Option.some.injEq] at h
   cases hm : (m % 2 == 1) with
   | true => rw [hm] at h; exact .inl h.symm
   | false => rw [hm] at h; exact .inr (by simpa using h)
  | succ i =>
   simp only [blankN, List.getElem?_cons_succ] at h
   rcases h2 i x h with h | h
   ·exact .inl h
   ·exact .inr (by simpa using h)
theorem Sub_bl (m : Nat) : Sub st ⟨blankN m st.tmps, st.heap, st.k⟩ := by
 rintro cx a w ⟨Im, M, hF⟩
 obtain ⟨h1, h2⟩ := blankN_get m st.tmps
 refine ⟨Im, M, hF.kp, hF.im0, hF.im1, hF.imlt, by simp only; rw [h1]; exact hF.tl, fun i x hx => ?_, hF.ob, hF.out, hF.own, hF.sep, hF.mm, hF.df⟩
 have hi : i < st.tmps.length := by rw [← h1]; exact (List.getElem?_eq_some_iff.1 hx).1
 rcases h2 i x hx with h | h
 ·subst h
  obtain ⟨v, hv, _⟩ := hF.tm i _ (List.getElem?_eq_getElem hi)
  exact ⟨v, hv, .junk _⟩
 ·exact hF.tm i x h
structure IOx (ids news : List Nat) (s : Prop) : Prop where
 run : s
end Go.Proofs.YtodfkdnkgedgeaaT
