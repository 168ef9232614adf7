/- Walks over the program's functions, on values without memory, and what they come to. No condition. -/
import Derived.Test.YtodfkdnkgedgeaaTw20
set_option linter.unusedVariables false
set_option linter.unusedSimpArgs false
namespace Go.Proofs.YtodfkdnkgedgeaaT
open Go Go.RowKit
variable {st : St}
theorem ownB_boxes {h : List HO} {M : Nat → Option Value} {b i : Nat} {cs ds : List AV} (hb : h[b]? = some (.box cs)) : ownB (h.set b (.box ds)) M i = ownB h M i := by
 by_cases hi : i = b
 ·subst hi
  unfold ownB
  rw [List.getElem?_set_self (List.getElem?_eq_some_iff.1 hb).1, hb]
  cases M i with
  | none => rfl
  | some v =>
   cases v with
   | pointer p => cases p <;> rfl
   | _ => rfl
 ·exact ownB_set_ne hi rfl
end Go.Proofs.YtodfkdnkgedgeaaT
