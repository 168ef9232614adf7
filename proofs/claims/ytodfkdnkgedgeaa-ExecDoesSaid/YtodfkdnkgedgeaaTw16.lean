/- Walks over the program's functions, on values without memory, and what they come to. No condition. -/
import Derived.Test.YtodfkdnkgedgeaaTw15
set_option linter.unusedVariables false
set_option linter.unusedSimpArgs false
namespace Go.Proofs.YtodfkdnkgedgeaaT
open Go Go.RowKit
variable {P : Program} {K : St → Prop} {st : St}
def AV.opt (p : Bool) (x : AV) : AV := if p = true then x else .tup []
theorem AV.opt_true (x : AV) : AV.opt true x = x := rfl
theorem QBlock_x {id id' : Nat} {Q : Exit → St → Prop} (h : (id' == id) = false) (k : Q (.exit id') st) : QBlock id Q (.exit id') st := by
 have : id' ≠ id := by simpa using h
 simpa [QBlock, this] using k
theorem Sub_fix (id : Nat) : Sub st ⟨st.tmps, fix st.heap id, st.k⟩ := by
 rintro cx a w ⟨Im, M, h⟩
 obtain ⟨Im', _, _, hF, _⟩ := fix_sound h id
 exact ⟨Im', M, hF⟩
theorem opt_or (c d : Bool) : (if c = true then AV.bool true else AV.opt (!c) (.bool d)) = .bool (c || d) := by cases c <;> rfl
theorem opt_orn (c d : Bool) : (if (!c) = true then AV.bool true else AV.opt c (.bool d)) = .bool (!c || d) := by cases c <;> rfl
theorem opt_and (c d : Bool) : (if c = true then AV.opt c (.bool d) else AV.bool false) = .bool (c && d) := by cases c <;> rfl
end Go.Proofs.YtodfkdnkgedgeaaT
