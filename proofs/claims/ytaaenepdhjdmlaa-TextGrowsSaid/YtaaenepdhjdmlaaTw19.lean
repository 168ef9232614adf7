/- Walks over the program's functions, on values without memory, and what they come to. No condition. -/
import Derived.Test.YtaaenepdhjdmlaaTw18
set_option linter.unusedVariables false
set_option linter.unusedSimpArgs false
namespace Go.Proofs.YtaaenepdhjdmlaaT
open Go Go.RowKit
variable {st : St}
def leLL : List (List AV) → List (List AV) → Prop
 | [], [] => True
 | x :: a, y :: b => leL x y ∧ leLL a b
 | _, _ => False
end Go.Proofs.YtaaenepdhjdmlaaT
