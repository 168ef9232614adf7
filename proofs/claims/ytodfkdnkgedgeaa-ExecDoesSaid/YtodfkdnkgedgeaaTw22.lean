/- Walks over the program's functions, on values without memory, and what they come to. No condition. -/
import Derived.Test.YtodfkdnkgedgeaaTw21
set_option linter.unusedVariables false
set_option linter.unusedSimpArgs false
namespace Go.Proofs.YtodfkdnkgedgeaaT
open Go Go.RowKit
variable {P : Program} {st : St} {K : St → Prop} {Q : Exit → St → Prop} {cx : Cx}
end Go.Proofs.YtodfkdnkgedgeaaT
