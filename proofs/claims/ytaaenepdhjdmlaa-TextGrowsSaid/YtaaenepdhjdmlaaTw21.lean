/- Walks over the program's functions, on values without memory, and what they come to. No condition. -/
import Derived.Test.YtaaenepdhjdmlaaTw20
set_option linter.unusedVariables false
set_option linter.unusedSimpArgs false
namespace Go.Proofs.YtaaenepdhjdmlaaT
open Go Go.RowKit
variable {st : St}
theorem ownB_boxes {h : List HO} {M : Nat → Option Value} {b i : Nat} {cs ds : List AV} (hb : h[b]? = some (.box cs)) : ownB (h.set b (.box ds)) M i = ownB h M i := by
 by_cases hi : i = b
 ·subst hi
  unfold ownB
  rw [List.getElem?_set_self (List.getElem?_eq_some_iff.1 hb).1, hb]
  cases M i with
  | none => rfl
  | some v =>
   cases v with
   | pointer p => cases p <;> rfl
   | _ => rfl
 ·exact ownB_set_ne hi rfl
theorem Sub_moveB {b f id j e sz : Nat} {cs : List AV} {es : List (List AV)} (hb : st.heap[b]? = some (.box cs)) (hf : cs[f]? = some (.bsl id)) (hid : st.heap[id]? = some (.arr e sz es)) (hj : st.heap[j]? = some .un) (hk : st.k ≤ j) :
  Sub st ⟨st.tmps, ((st.heap.set id .dead).set j (.arr e sz es)).set b (.box (cs.set f (.bsl j))), st.k⟩ := by
 rintro cx a w ⟨Im, M, h⟩
 obtain ⟨v, xs, hm, hown, hch⟩ := h.ob id _ hid
 have hidne : id ≠ j := fun e' => by rw [e', hj] at hid; cases hid
 have hbne : b ≠ j := fun e' => by rw [e', hj] at hb; cases hb
 have hbid : b ≠ id := fun e' => by rw [e', hid] at hb; cases hb
 have hj2 : (hset st id .dead).heap[j]? = some .un := by
  show (st.heap.set id .dead)[j]? = _
  rw [List.getElem?_set_ne hidne]; exact hj
 have hn := (h.kill id).new (id := j) hj2 hk (w' := w) h.kp (Nat.le_refl _) (fun _ _ => rfl) (fun _ _ _ => rfl) v (.arr e sz es) ⟨v, xs, by simp, hown, hch⟩ (fun g hg => by
  unfold ownB at hg
  rw [List.getElem?_set_self (List.getElem?_eq_some_iff.1 hj2).1] at hg
  simp only [if_true] at hg
  have hog : ownB st.heap M id = some g := (ownB_arr hid hm).trans hg
  obtain ⟨s1, s2, s3⟩ := h.sep id _ hog
  refine ⟨s1, s2, s3, fun i hi' => ?_⟩
  have hi2 : ownB (st.heap.set id .dead) M i = some g := hi'
  by_cases hii : i = id
  ·subst hii
   unfold ownB at hi2
   rw [List.getElem?_set_self (List.getElem?_eq_some_iff.1 hid).1] at hi2
   cases hi2
  ·rw [ownB_set_ne hii rfl] at hi2
   exact h.own i id g hii hi2 hog)
 have hb2 : ((st.heap.set id .dead).set j (.arr e sz es))[b]? = some (.box cs) := by
  rw [List.getElem?_set_ne (Ne.symm hbne), List.getElem?_set_ne (Ne.symm hbid)]; exact hb
 have hlt := (List.getElem?_eq_some_iff.1 hb2).1
 obtain ⟨blk, vs, ty, b1, b2, b3, b4, b5⟩ := hn.ob b _ hb2
 refine ⟨Im, _, hn.kp, hn.im0, hn.im1, hn.imlt, hn.tl, hn.tm, fun i o ho => ?_, fun i hi => hn.out i (by simpa [hset] using hi), fun i k c hik h1 h2 => ?_, fun i c hc => ?_, hn.mm, hn.df⟩
 ·simp only at ho
  by_cases hi : i = b
  ·subst hi
   rw [List.getElem?_set_self hlt] at ho
   cases ho
   refine ⟨blk, vs, ty, b1, b2, by rw [List.length_set]; exact b3, b4, fun q u c hu hc => ?_⟩
   by_cases hq : q = f
   ·subst hq
    rw [List.getElem?_set_self (List.getElem?_eq_some_iff.1 hf).1] at hc
    cases hc
    obtain ⟨oo, n, c, he, hmm⟩ := R_bsl (b5 q u _ hu hf)
    subst he
    refine .bsl _ _ _ _ ?_
    simp only [if_neg hidne] at hmm
    rw [hm] at hmm
    simp only [if_true]
    exact hmm
   ·rw [List.getElem?_set_ne (Ne.symm hq)] at hc
    exact b5 q u c hu hc
  ·rw [List.getElem?_set_ne (Ne.symm hi)] at ho
   exact hn.ob i o ho
 ·simp only at h1 h2
  rw [ownB_boxes hb2] at h1 h2
  exact hn.own i k c hik h1 h2
 ·simp only at hc
  rw [ownB_boxes hb2] at hc
  exact hn.sep i c hc
end Go.Proofs.YtaaenepdhjdmlaaT
