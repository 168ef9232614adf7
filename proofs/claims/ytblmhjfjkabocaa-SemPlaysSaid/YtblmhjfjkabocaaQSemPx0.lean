/- Printed by a program of this session (over the kit's print): functions in plain form, and what their calls come to. -/
import Derived.Test.YtblmhjfjkabocaaProg
import Derived.Below
import Derived.Deep.Draws
import Derived.Deep.AppendLies
import Derived.Maps.AppendAt
import Derived.OwnWalk
import Derived.Laws.BytesArg
import Derived.Laws.MakeOwn
import Derived.Laws.OwnMore
import Derived.Deep.OwnRows
import Derived.Tactics
import Derived.Lib.ConvBytes
import Derived.Laws.Slices
import Derived.WalkKit
import Derived.KernelRfl
import Derived.RowKit3
import Derived.Deep.LoopGhost
import Derived.Deep.QuietTactic
import Derived.BigQuiet
import Derived.WideLaws
import Derived.Deep.DeepCutAuto
import Derived.Deep.CutBlock
import Derived.Deep.RegionHeld3
import Derived.Laws.Rows
import Derived.Lib.AppendStr
import Derived.ArgAppend
import Derived.Laws.IdiomCopy
import Derived.OrdersHeld
import Derived.Laws.BitsLemmas
import Derived.RowKit
import Derived.WalkSpells
import Derived.Test.YtblmhjfjkabocaaWWords
import Derived.Test.YtblmhjfjkabocaaWLast
import Derived.Test.YtblmhjfjkabocaaWTab
import Derived.Test.YtblmhjfjkabocaaWQPut
import Derived.Test.YtblmhjfjkabocaaWApart
import Derived.Test.YtblmhjfjkabocaaWArr
import Derived.Test.YtblmhjfjkabocaaWZeros
import Derived.Test.YtblmhjfjkabocaaWFoot
import Derived.Test.YtblmhjfjkabocaaWKept
import Derived.Test.YtblmhjfjkabocaaWShare
import Derived.Test.YtblmhjfjkabocaaWN
import Derived.Test.YtblmhjfjkabocaaWRepsOne
import Derived.Test.YtblmhjfjkabocaaWGuard
import Derived.Test.YtblmhjfjkabocaaWNEv
import Derived.Test.YtblmhjfjkabocaaWMore
namespace Go.Proofs.Ytblmhjfjkabocaa.QSemP
open Go.RowKit Go.Proofs.YtblmhjfjkabocaaW.PrintWords Go.Proofs.YtblmhjfjkabocaaW.PrintLast Go.Proofs.YtblmhjfjkabocaaW.PrintMore
attribute [local go_sem] max2_int min2_int max_two min_two max_three min_three max_four min_four   -- for this text's walks alone
set_option linter.unusedVariables false
set_option linter.unusedSimpArgs false



def errW : Option Int → Value
  | none => .nilIface
  | some c => .iface 0 (.int .i64 c)
theorem errW_none : errW none = .nilIface := rfl
theorem errW_some (c : Int) : errW (some c) = .iface 0 (.int .i64 c) := rfl

theorem info3 : (Try.prog.info? 3).map (fun i => (i.zero, i.size, i.bytes)) = some (some (.int .i64 0), 1, 8) := by kernel_rfl
-- the values' own types

end Go.Proofs.Ytblmhjfjkabocaa.QSemP
