/- Walks over the program's functions, on values without memory, and what they come to. No condition. -/
import Derived.Test.YtodfkdnkgedgeaaTw24
import Derived.Test.YtodfkdnkgedgeaaBase
set_option linter.unusedVariables false
set_option linter.unusedSimpArgs false
namespace Go.Proofs.YtodfkdnkgedgeaaT
open Go Go.Proofs
variable {st : St}
/-- A row that stays as it is, where a variable names it, is a value. -/
theorem Sub_immBox {b f id : Nat} {cs : List AV} {es : List (List AV)} (hb : st.heap[b]? = some (.box cs)) (hf : cs[f]? = some (.bsl id)) (hid : st.heap[id]? = some (.imm es)) :
    Sub st ⟨st.tmps, st.heap.set b (.box (cs.set f (.sl false es))), st.k⟩ := by
  rintro cx a w ⟨Im, M, hn⟩
  have hlt := (List.getElem?_eq_some_iff.1 hb).1
  obtain ⟨blk, vs, ty, b1, b2, b3, b4, b5⟩ := hn.ob b _ hb
  refine ⟨Im, M, hn.kp, hn.im0, hn.im1, hn.imlt, hn.tl, hn.tm, fun i o ho => ?_, fun i hi => hn.out i (by simpa using hi), fun i k c hik h1 h2 => ?_, fun i c hc => ?_, hn.mm, hn.df⟩
  · simp only at ho
    by_cases hi : i = b
    · subst hi
      rw [List.getElem?_set_self hlt] at ho
      cases ho
      refine ⟨blk, vs, ty, b1, b2, by rw [List.length_set]; exact b3, b4, fun q u c hu hc => ?_⟩
      by_cases hq : q = f
      · subst hq
        rw [List.getElem?_set_self (List.getElem?_eq_some_iff.1 hf).1] at hc
        cases hc
        have := vl_sound hn (b5 q u _ hu hf)
        simp only [vl, hid] at this
        exact this
      · rw [List.getElem?_set_ne (Ne.symm hq)] at hc
        exact b5 q u c hu hc
    · rw [List.getElem?_set_ne (Ne.symm hi)] at ho
      exact hn.ob i o ho
  · simp only at h1 h2
    rw [ownB_boxes hb] at h1 h2
    exact hn.own i k c hik h1 h2
  · simp only at hc
    rw [ownB_boxes hb] at hc
    exact hn.sep i c hc
end Go.Proofs.YtodfkdnkgedgeaaT
