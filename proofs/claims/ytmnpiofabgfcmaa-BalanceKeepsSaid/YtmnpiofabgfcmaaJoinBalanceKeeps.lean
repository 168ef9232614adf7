/- The facts of a row that its program bears out. No condition. -/
import Derived.Test.YtmnpiofabgfcmaaRows
import Derived.WalkKit
import Derived.ProofKit
import Derived.OpenShut
import Derived.ShutString
import Derived.ChangeOld
import Derived.Below
import Derived.SizedLaws
namespace Go.Proofs.Ytmnpiofabgfcmaa.balanceKeeps
open Go.ChangeShapes Go.WideShapes Go.ChangeAt Go.RowKit
open Go.ChangeMaps (open_string shut_string)
set_option linter.unusedVariables false

theorem joined : (joinedFacts Try.pinned.checked.prog 15 Try.f15 Rows.balanceKeepsSpec Rows.balanceKeepsRow : Bool) = true := by kernel_rfl
end Go.Proofs.Ytmnpiofabgfcmaa.balanceKeeps
