/- The facts of a row that its program bears out. No condition. -/
import Derived.Test.YtmnpiofabgfcmaaRows
import Derived.WalkKit
import Derived.ProofKit
import Derived.OpenShut
import Derived.ShutString
import Derived.ChangeOld
import Derived.Below
import Derived.SizedLaws
namespace Go.Proofs.Ytmnpiofabgfcmaa.plugBack
open Go.ChangeShapes Go.WideShapes Go.ChangeAt Go.RowKit
open Go.ChangeMaps (open_string shut_string)
set_option linter.unusedVariables false

theorem joined : (joinedFacts Try.pinned.checked.prog 8 Try.f8 Rows.plugBackSpec Rows.plugBackRow : Bool) = true := by kernel_rfl
end Go.Proofs.Ytmnpiofabgfcmaa.plugBack
