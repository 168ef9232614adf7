/-
  No cell of these rows narrows 'for every input' (looked for: loops, veiled, ifaces, maps, wideKeys, modest, calm, conditions, laid).
  DERIVED. THE GIVEN ROWS OF THIS SEAT. 17 by the template 'for every input the law returns true; each argument reads behind the call as it read before'; 0 by the template 'total and deterministic' (their statements: YtmnpiofabgfcmaaTotals.lean).
  GIVEN WITH THE SEED: the statements are not yours to turn. If you find one false, say at which input.
  Laid BY PROGRAM, IN A SANDBOX (cutbox-rows.mjs): the forced cells as the released guide's own fill.sh prints them over the translation 7f3641bc539cb57b… (all of the seat's roots in one cut). By AI agents, Wed Nov 11 2026. No macro, syntax, notation, axiom, sorry.
-/
import Derived.Test.YtmnpiofabgfcmaaChecked
import GoSem.Claim
import GoSem.ClaimJoined
import GoSem.ClaimMapViews
import Derived.JoinedTies
import Derived.KernelRfl
namespace Go.Proofs.Ytmnpiofabgfcmaa
/- THE CELL 'sum', in the pinned program and in every row, IS THE sha256 OF THE DUMP (.gsa) THAT YtmnpiofabgfcmaaProg.lean LOADS. Nothing in Lean hashes anything: it is a label: what it is worth is what the hold of that sum in a sandbox is worth. -/
noncomputable def Try.pinned : Pinned := { name := "ytmnpiofabgfcmaa", sum := "7f3641bc539cb57b82fcae69ee60024f1a40b43285fca1aae3f289791b884f44", checked := Try.checked }
namespace Rows
def none {H : Type} : Left H := { results := [], args := [] }

/-- 'catafalquelaw15.RunsNew': WHATEVER THE INPUT: true; the input reads as it did. -/
def runsNewSpec : ChangeSpec := { name := "runsNew", fn := fun _ => fun
  | [d1, d2] => { results := [.lit (.bool true)], args := [d1, d2] }
  | _ => none }
def runsNewRow : OpenClaim := { program := "ytmnpiofabgfcmaa", sum := "7f3641bc539cb57b82fcae69ee60024f1a40b43285fca1aae3f289791b884f44", func := "catafalque/catafalquelaw15.RunsNew", spec := "runsNew", unfollowed := true, recurses := true, apart := false }
def RunsNewSaid : Prop := runsNewRow.holds Try.pinned (OpenSpec.ofChange runsNewSpec)

/-- ITS FALSE NEIGHBOUR: 'it returns false'. Refute it at one input. -/
def runsNewWrong : ChangeSpec := { name := "runsNew", fn := fun _ => fun
  | [d1, d2] => { results := [.lit (.bool false)], args := [d1, d2] }
  | _ => none }
def RunsNewWrongFalsely : Prop := runsNewRow.holds Try.pinned (OpenSpec.ofChange runsNewWrong)

/-- 'catafalquelaw15.RunsFills': WHATEVER THE INPUT: true; the input reads as it did. -/
def runsFillsSpec : ChangeSpec := { name := "runsFills", fn := fun _ => fun
  | [d1, d2, d3, d4] => { results := [.lit (.bool true)], args := [d1, d2, d3, d4] }
  | _ => none }
def runsFillsRow : OpenClaim := { program := "ytmnpiofabgfcmaa", sum := "7f3641bc539cb57b82fcae69ee60024f1a40b43285fca1aae3f289791b884f44", func := "catafalque/catafalquelaw15.RunsFills", spec := "runsFills", unfollowed := true, recurses := true, apart := false }
def RunsFillsSaid : Prop := runsFillsRow.holds Try.pinned (OpenSpec.ofChange runsFillsSpec)

/-- ITS FALSE NEIGHBOUR: 'it returns false'. Refute it at one input. -/
def runsFillsWrong : ChangeSpec := { name := "runsFills", fn := fun _ => fun
  | [d1, d2, d3, d4] => { results := [.lit (.bool false)], args := [d1, d2, d3, d4] }
  | _ => none }
def RunsFillsWrongFalsely : Prop := runsFillsRow.holds Try.pinned (OpenSpec.ofChange runsFillsWrong)

/-- 'catafalquelaw15.RunsKeeps': WHATEVER THE INPUT: true; the input reads as it did. -/
def runsKeepsSpec : ChangeSpec := { name := "runsKeeps", fn := fun _ => fun
  | [d1, d2, d3] => { results := [.lit (.bool true)], args := [d1, d2, d3] }
  | _ => none }
def runsKeepsRow : OpenClaim := { program := "ytmnpiofabgfcmaa", sum := "7f3641bc539cb57b82fcae69ee60024f1a40b43285fca1aae3f289791b884f44", func := "catafalque/catafalquelaw15.RunsKeeps", spec := "runsKeeps", unfollowed := true, recurses := true, apart := false }
def RunsKeepsSaid : Prop := runsKeepsRow.holds Try.pinned (OpenSpec.ofChange runsKeepsSpec)

/-- ITS FALSE NEIGHBOUR: 'it returns false'. Refute it at one input. -/
def runsKeepsWrong : ChangeSpec := { name := "runsKeeps", fn := fun _ => fun
  | [d1, d2, d3] => { results := [.lit (.bool false)], args := [d1, d2, d3] }
  | _ => none }
def RunsKeepsWrongFalsely : Prop := runsKeepsRow.holds Try.pinned (OpenSpec.ofChange runsKeepsWrong)

/-- 'catafalquelaw15.RunsLast': WHATEVER THE INPUT: true; the input reads as it did. -/
def runsLastSpec : ChangeSpec := { name := "runsLast", fn := fun _ => fun
  | [d1, d2, d3] => { results := [.lit (.bool true)], args := [d1, d2, d3] }
  | _ => none }
def runsLastRow : OpenClaim := { program := "ytmnpiofabgfcmaa", sum := "7f3641bc539cb57b82fcae69ee60024f1a40b43285fca1aae3f289791b884f44", func := "catafalque/catafalquelaw15.RunsLast", spec := "runsLast", unfollowed := true, recurses := true, apart := false }
def RunsLastSaid : Prop := runsLastRow.holds Try.pinned (OpenSpec.ofChange runsLastSpec)

/-- ITS FALSE NEIGHBOUR: 'it returns false'. Refute it at one input. -/
def runsLastWrong : ChangeSpec := { name := "runsLast", fn := fun _ => fun
  | [d1, d2, d3] => { results := [.lit (.bool false)], args := [d1, d2, d3] }
  | _ => none }
def RunsLastWrongFalsely : Prop := runsLastRow.holds Try.pinned (OpenSpec.ofChange runsLastWrong)

/-- 'catafalquelaw20.PlugRow': WHATEVER THE INPUT: true; the input reads as it did. -/
def plugRowSpec : ChangeSpec := { name := "plugRow", fn := fun _ => fun
  | [d1, d2] => { results := [.lit (.bool true)], args := [d1, d2] }
  | _ => none }
def plugRowRow : OpenClaim := { program := "ytmnpiofabgfcmaa", sum := "7f3641bc539cb57b82fcae69ee60024f1a40b43285fca1aae3f289791b884f44", func := "catafalque/catafalquelaw20.PlugRow", spec := "plugRow", unfollowed := true, recurses := true, apart := false }
def PlugRowSaid : Prop := plugRowRow.holds Try.pinned (OpenSpec.ofChange plugRowSpec)

/-- ITS FALSE NEIGHBOUR: 'it returns false'. Refute it at one input. -/
def plugRowWrong : ChangeSpec := { name := "plugRow", fn := fun _ => fun
  | [d1, d2] => { results := [.lit (.bool false)], args := [d1, d2] }
  | _ => none }
def PlugRowWrongFalsely : Prop := plugRowRow.holds Try.pinned (OpenSpec.ofChange plugRowWrong)

/-- 'catafalquelaw20.PlugBack': WHATEVER THE INPUT: true; the input reads as it did. -/
def plugBackSpec : ChangeSpec := { name := "plugBack", fn := fun _ => fun
  | [d1, d2] => { results := [.lit (.bool true)], args := [d1, d2] }
  | _ => none }
def plugBackRow : OpenClaim := { program := "ytmnpiofabgfcmaa", sum := "7f3641bc539cb57b82fcae69ee60024f1a40b43285fca1aae3f289791b884f44", func := "catafalque/catafalquelaw20.PlugBack", spec := "plugBack", unfollowed := true, recurses := true, apart := false }
def PlugBackSaid : Prop := plugBackRow.holds Try.pinned (OpenSpec.ofChange plugBackSpec)

/-- ITS FALSE NEIGHBOUR: 'it returns false'. Refute it at one input. -/
def plugBackWrong : ChangeSpec := { name := "plugBack", fn := fun _ => fun
  | [d1, d2] => { results := [.lit (.bool false)], args := [d1, d2] }
  | _ => none }
def PlugBackWrongFalsely : Prop := plugBackRow.holds Try.pinned (OpenSpec.ofChange plugBackWrong)

/-- 'catafalquelaw16.FindLocals': WHATEVER THE INPUT: true; the input reads as it did. -/
def findLocalsSpec : ChangeSpec := { name := "findLocals", fn := fun _ => fun
  | [d1, d2, d3] => { results := [.lit (.bool true)], args := [d1, d2, d3] }
  | _ => none }
def findLocalsRow : OpenClaim := { program := "ytmnpiofabgfcmaa", sum := "7f3641bc539cb57b82fcae69ee60024f1a40b43285fca1aae3f289791b884f44", func := "catafalque/catafalquelaw16.FindLocals", spec := "findLocals", unfollowed := true, recurses := true, apart := false }
def FindLocalsSaid : Prop := findLocalsRow.holds Try.pinned (OpenSpec.ofChange findLocalsSpec)

/-- ITS FALSE NEIGHBOUR: 'it returns false'. Refute it at one input. -/
def findLocalsWrong : ChangeSpec := { name := "findLocals", fn := fun _ => fun
  | [d1, d2, d3] => { results := [.lit (.bool false)], args := [d1, d2, d3] }
  | _ => none }
def FindLocalsWrongFalsely : Prop := findLocalsRow.holds Try.pinned (OpenSpec.ofChange findLocalsWrong)

/-- 'catafalquelaw16.FindAll': WHATEVER THE INPUT: true; the input reads as it did. -/
def findAllSpec : ChangeSpec := { name := "findAll", fn := fun _ => fun
  | [d1, d2, d3] => { results := [.lit (.bool true)], args := [d1, d2, d3] }
  | _ => none }
def findAllRow : OpenClaim := { program := "ytmnpiofabgfcmaa", sum := "7f3641bc539cb57b82fcae69ee60024f1a40b43285fca1aae3f289791b884f44", func := "catafalque/catafalquelaw16.FindAll", spec := "findAll", unfollowed := true, recurses := true, apart := false }
def FindAllSaid : Prop := findAllRow.holds Try.pinned (OpenSpec.ofChange findAllSpec)

/-- ITS FALSE NEIGHBOUR: 'it returns false'. Refute it at one input. -/
def findAllWrong : ChangeSpec := { name := "findAll", fn := fun _ => fun
  | [d1, d2, d3] => { results := [.lit (.bool false)], args := [d1, d2, d3] }
  | _ => none }
def FindAllWrongFalsely : Prop := findAllRow.holds Try.pinned (OpenSpec.ofChange findAllWrong)

/-- 'catafalquelaw16.FindOthers': WHATEVER THE INPUT: true; the input reads as it did. -/
def findOthersSpec : ChangeSpec := { name := "findOthers", fn := fun _ => fun
  | [d1, d2, d3] => { results := [.lit (.bool true)], args := [d1, d2, d3] }
  | _ => none }
def findOthersRow : OpenClaim := { program := "ytmnpiofabgfcmaa", sum := "7f3641bc539cb57b82fcae69ee60024f1a40b43285fca1aae3f289791b884f44", func := "catafalque/catafalquelaw16.FindOthers", spec := "findOthers", unfollowed := true, recurses := true, apart := false }
def FindOthersSaid : Prop := findOthersRow.holds Try.pinned (OpenSpec.ofChange findOthersSpec)

/-- ITS FALSE NEIGHBOUR: 'it returns false'. Refute it at one input. -/
def findOthersWrong : ChangeSpec := { name := "findOthers", fn := fun _ => fun
  | [d1, d2, d3] => { results := [.lit (.bool false)], args := [d1, d2, d3] }
  | _ => none }
def FindOthersWrongFalsely : Prop := findOthersRow.holds Try.pinned (OpenSpec.ofChange findOthersWrong)

/-- 'catafalquelaw16.FindTurns': WHATEVER THE INPUT: true; the input reads as it did. -/
def findTurnsSpec : ChangeSpec := { name := "findTurns", fn := fun _ => fun
  | [d1, d2, d3] => { results := [.lit (.bool true)], args := [d1, d2, d3] }
  | _ => none }
def findTurnsRow : OpenClaim := { program := "ytmnpiofabgfcmaa", sum := "7f3641bc539cb57b82fcae69ee60024f1a40b43285fca1aae3f289791b884f44", func := "catafalque/catafalquelaw16.FindTurns", spec := "findTurns", unfollowed := true, recurses := true, apart := false }
def FindTurnsSaid : Prop := findTurnsRow.holds Try.pinned (OpenSpec.ofChange findTurnsSpec)

/-- ITS FALSE NEIGHBOUR: 'it returns false'. Refute it at one input. -/
def findTurnsWrong : ChangeSpec := { name := "findTurns", fn := fun _ => fun
  | [d1, d2, d3] => { results := [.lit (.bool false)], args := [d1, d2, d3] }
  | _ => none }
def FindTurnsWrongFalsely : Prop := findTurnsRow.holds Try.pinned (OpenSpec.ofChange findTurnsWrong)

/-- 'catafalquelaw16.FindSome': WHATEVER THE INPUT: true; the input reads as it did. -/
def findSomeSpec : ChangeSpec := { name := "findSome", fn := fun _ => fun
  | [d1, d2, d3] => { results := [.lit (.bool true)], args := [d1, d2, d3] }
  | _ => none }
def findSomeRow : OpenClaim := { program := "ytmnpiofabgfcmaa", sum := "7f3641bc539cb57b82fcae69ee60024f1a40b43285fca1aae3f289791b884f44", func := "catafalque/catafalquelaw16.FindSome", spec := "findSome", unfollowed := true, recurses := true, apart := false }
def FindSomeSaid : Prop := findSomeRow.holds Try.pinned (OpenSpec.ofChange findSomeSpec)

/-- ITS FALSE NEIGHBOUR: 'it returns false'. Refute it at one input. -/
def findSomeWrong : ChangeSpec := { name := "findSome", fn := fun _ => fun
  | [d1, d2, d3] => { results := [.lit (.bool false)], args := [d1, d2, d3] }
  | _ => none }
def FindSomeWrongFalsely : Prop := findSomeRow.holds Try.pinned (OpenSpec.ofChange findSomeWrong)

/-- 'catafalquelaw19.BalanceTells': WHATEVER THE INPUT: true; the input reads as it did. -/
def balanceTellsSpec : ChangeSpec := { name := "balanceTells", fn := fun _ => fun
  | [d] => { results := [.lit (.bool true)], args := [d] }
  | _ => none }
def balanceTellsRow : OpenClaim := { program := "ytmnpiofabgfcmaa", sum := "7f3641bc539cb57b82fcae69ee60024f1a40b43285fca1aae3f289791b884f44", func := "catafalque/catafalquelaw19.BalanceTells", spec := "balanceTells", unfollowed := true, recurses := true, apart := false }
def BalanceTellsSaid : Prop := balanceTellsRow.holds Try.pinned (OpenSpec.ofChange balanceTellsSpec)

/-- ITS FALSE NEIGHBOUR: 'it returns false'. Refute it at one input. -/
def balanceTellsWrong : ChangeSpec := { name := "balanceTells", fn := fun _ => fun
  | [d] => { results := [.lit (.bool false)], args := [d] }
  | _ => none }
def BalanceTellsWrongFalsely : Prop := balanceTellsRow.holds Try.pinned (OpenSpec.ofChange balanceTellsWrong)

/-- 'catafalquelaw19.BalanceKeeps': WHATEVER THE INPUT: true; the input reads as it did. -/
def balanceKeepsSpec : ChangeSpec := { name := "balanceKeeps", fn := fun _ => fun
  | [d] => { results := [.lit (.bool true)], args := [d] }
  | _ => none }
def balanceKeepsRow : OpenClaim := { program := "ytmnpiofabgfcmaa", sum := "7f3641bc539cb57b82fcae69ee60024f1a40b43285fca1aae3f289791b884f44", func := "catafalque/catafalquelaw19.BalanceKeeps", spec := "balanceKeeps", unfollowed := true, recurses := true, apart := false }
def BalanceKeepsSaid : Prop := balanceKeepsRow.holds Try.pinned (OpenSpec.ofChange balanceKeepsSpec)

/-- ITS FALSE NEIGHBOUR: 'it returns false'. Refute it at one input. -/
def balanceKeepsWrong : ChangeSpec := { name := "balanceKeeps", fn := fun _ => fun
  | [d] => { results := [.lit (.bool false)], args := [d] }
  | _ => none }
def BalanceKeepsWrongFalsely : Prop := balanceKeepsRow.holds Try.pinned (OpenSpec.ofChange balanceKeepsWrong)

/-- 'catafalquelaw19.BalanceEnds': WHATEVER THE INPUT: true; the input reads as it did. -/
def balanceEndsSpec : ChangeSpec := { name := "balanceEnds", fn := fun _ => fun
  | [d] => { results := [.lit (.bool true)], args := [d] }
  | _ => none }
def balanceEndsRow : OpenClaim := { program := "ytmnpiofabgfcmaa", sum := "7f3641bc539cb57b82fcae69ee60024f1a40b43285fca1aae3f289791b884f44", func := "catafalque/catafalquelaw19.BalanceEnds", spec := "balanceEnds", unfollowed := true, recurses := true, apart := false }
def BalanceEndsSaid : Prop := balanceEndsRow.holds Try.pinned (OpenSpec.ofChange balanceEndsSpec)

/-- ITS FALSE NEIGHBOUR: 'it returns false'. Refute it at one input. -/
def balanceEndsWrong : ChangeSpec := { name := "balanceEnds", fn := fun _ => fun
  | [d] => { results := [.lit (.bool false)], args := [d] }
  | _ => none }
def BalanceEndsWrongFalsely : Prop := balanceEndsRow.holds Try.pinned (OpenSpec.ofChange balanceEndsWrong)

/-- 'catafalquelaw19.BalanceOthers': WHATEVER THE INPUT: true; the input reads as it did. -/
def balanceOthersSpec : ChangeSpec := { name := "balanceOthers", fn := fun _ => fun
  | [d] => { results := [.lit (.bool true)], args := [d] }
  | _ => none }
def balanceOthersRow : OpenClaim := { program := "ytmnpiofabgfcmaa", sum := "7f3641bc539cb57b82fcae69ee60024f1a40b43285fca1aae3f289791b884f44", func := "catafalque/catafalquelaw19.BalanceOthers", spec := "balanceOthers", unfollowed := true, recurses := true, apart := false }
def BalanceOthersSaid : Prop := balanceOthersRow.holds Try.pinned (OpenSpec.ofChange balanceOthersSpec)

/-- ITS FALSE NEIGHBOUR: 'it returns false'. Refute it at one input. -/
def balanceOthersWrong : ChangeSpec := { name := "balanceOthers", fn := fun _ => fun
  | [d] => { results := [.lit (.bool false)], args := [d] }
  | _ => none }
def BalanceOthersWrongFalsely : Prop := balanceOthersRow.holds Try.pinned (OpenSpec.ofChange balanceOthersWrong)

/-- 'catafalquelaw19.BalanceNone': WHATEVER THE INPUT: true; the input reads as it did. -/
def balanceNoneSpec : ChangeSpec := { name := "balanceNone", fn := fun _ => fun
  | [d] => { results := [.lit (.bool true)], args := [d] }
  | _ => none }
def balanceNoneRow : OpenClaim := { program := "ytmnpiofabgfcmaa", sum := "7f3641bc539cb57b82fcae69ee60024f1a40b43285fca1aae3f289791b884f44", func := "catafalque/catafalquelaw19.BalanceNone", spec := "balanceNone", unfollowed := true, recurses := true, apart := false }
def BalanceNoneSaid : Prop := balanceNoneRow.holds Try.pinned (OpenSpec.ofChange balanceNoneSpec)

/-- ITS FALSE NEIGHBOUR: 'it returns false'. Refute it at one input. -/
def balanceNoneWrong : ChangeSpec := { name := "balanceNone", fn := fun _ => fun
  | [d] => { results := [.lit (.bool false)], args := [d] }
  | _ => none }
def BalanceNoneWrongFalsely : Prop := balanceNoneRow.holds Try.pinned (OpenSpec.ofChange balanceNoneWrong)

/-- 'catafalquelaw19.BalanceRings': WHATEVER THE INPUT: true; the input reads as it did. -/
def balanceRingsSpec : ChangeSpec := { name := "balanceRings", fn := fun _ => fun
  | [d] => { results := [.lit (.bool true)], args := [d] }
  | _ => none }
def balanceRingsRow : OpenClaim := { program := "ytmnpiofabgfcmaa", sum := "7f3641bc539cb57b82fcae69ee60024f1a40b43285fca1aae3f289791b884f44", func := "catafalque/catafalquelaw19.BalanceRings", spec := "balanceRings", unfollowed := true, recurses := true, apart := false }
def BalanceRingsSaid : Prop := balanceRingsRow.holds Try.pinned (OpenSpec.ofChange balanceRingsSpec)

/-- ITS FALSE NEIGHBOUR: 'it returns false'. Refute it at one input. -/
def balanceRingsWrong : ChangeSpec := { name := "balanceRings", fn := fun _ => fun
  | [d] => { results := [.lit (.bool false)], args := [d] }
  | _ => none }
def BalanceRingsWrongFalsely : Prop := balanceRingsRow.holds Try.pinned (OpenSpec.ofChange balanceRingsWrong)

/- THE SECOND FORM. 'bulk': how many values and letters a reading holds, each counted each time it is reached (what is shared counts as often as it is met; a slice's spare places count too). A statement '..UptoSaid' is the law's where the arguments, and the package variables that the reading takes, are together of bulk at most 1048576: NARROWER than '..Said'. Prove '..Said' where nothing that the law and all that it calls make is longer than what came in: it says more and counts as full. Else prove '..UptoSaid'. A law counts once. -/
mutual
def uptoBulk {H : Type} : DataW H → Nat
  | .lit (.string bytes) => bytes.length + 1
  | .lit _ => 1
  | .nil => 1
  | .ptr d => uptoBulk d + 1
  | .slice elems spare => uptoBulkAll elems + uptoBulkAll spare + 1
  | .agg parts => uptoBulkAll parts + 1
  | .iface _ d => uptoBulk d + 1
  | .map entries => uptoBulkEntries entries + 1
  | .held _ => 1
def uptoBulkAll {H : Type} : List (DataW H) → Nat
  | [] => 0
  | d :: r => uptoBulk d + uptoBulkAll r
def uptoBulkEntries {H : Type} : List (Lit × DataW H) → Nat
  | [] => 0
  | x :: r => uptoBulkEntry x + uptoBulkEntries r
def uptoBulkEntry {H : Type} : Lit × DataW H → Nat
  | (.string bytes, d) => bytes.length + uptoBulk d + 1
  | (_, d) => uptoBulk d + 1
 end
def uptoSmall : (H : Type) → List (DataW H) → Bool := fun _ ds => decide (uptoBulkAll ds ≤ 1048576)
def OpenSpec.upto (s : _root_.Go.ChangeSpec) : _root_.Go.OpenSpec := { _root_.Go.OpenSpec.ofChange s with cond := some uptoSmall }

/-- 'catafalquelaw15.RunsNew', WHERE WHAT IT READS IS OF BULK AT MOST 1048576: true; the input reads as it did. -/
def runsNewUptoRow : OpenClaim := { program := "ytmnpiofabgfcmaa", sum := "7f3641bc539cb57b82fcae69ee60024f1a40b43285fca1aae3f289791b884f44", func := "catafalque/catafalquelaw15.RunsNew", spec := "runsNew", unfollowed := true, recurses := true, apart := false, narrowed := true }
def RunsNewUptoSaid : Prop := runsNewUptoRow.holds Try.pinned (OpenSpec.upto runsNewSpec)

/-- 'catafalquelaw15.RunsFills', WHERE WHAT IT READS IS OF BULK AT MOST 1048576: true; the input reads as it did. -/
def runsFillsUptoRow : OpenClaim := { program := "ytmnpiofabgfcmaa", sum := "7f3641bc539cb57b82fcae69ee60024f1a40b43285fca1aae3f289791b884f44", func := "catafalque/catafalquelaw15.RunsFills", spec := "runsFills", unfollowed := true, recurses := true, apart := false, narrowed := true }
def RunsFillsUptoSaid : Prop := runsFillsUptoRow.holds Try.pinned (OpenSpec.upto runsFillsSpec)

/-- 'catafalquelaw15.RunsKeeps', WHERE WHAT IT READS IS OF BULK AT MOST 1048576: true; the input reads as it did. -/
def runsKeepsUptoRow : OpenClaim := { program := "ytmnpiofabgfcmaa", sum := "7f3641bc539cb57b82fcae69ee60024f1a40b43285fca1aae3f289791b884f44", func := "catafalque/catafalquelaw15.RunsKeeps", spec := "runsKeeps", unfollowed := true, recurses := true, apart := false, narrowed := true }
def RunsKeepsUptoSaid : Prop := runsKeepsUptoRow.holds Try.pinned (OpenSpec.upto runsKeepsSpec)

/-- 'catafalquelaw15.RunsLast', WHERE WHAT IT READS IS OF BULK AT MOST 1048576: true; the input reads as it did. -/
def runsLastUptoRow : OpenClaim := { program := "ytmnpiofabgfcmaa", sum := "7f3641bc539cb57b82fcae69ee60024f1a40b43285fca1aae3f289791b884f44", func := "catafalque/catafalquelaw15.RunsLast", spec := "runsLast", unfollowed := true, recurses := true, apart := false, narrowed := true }
def RunsLastUptoSaid : Prop := runsLastUptoRow.holds Try.pinned (OpenSpec.upto runsLastSpec)

/-- 'catafalquelaw20.PlugRow', WHERE WHAT IT READS IS OF BULK AT MOST 1048576: true; the input reads as it did. -/
def plugRowUptoRow : OpenClaim := { program := "ytmnpiofabgfcmaa", sum := "7f3641bc539cb57b82fcae69ee60024f1a40b43285fca1aae3f289791b884f44", func := "catafalque/catafalquelaw20.PlugRow", spec := "plugRow", unfollowed := true, recurses := true, apart := false, narrowed := true }
def PlugRowUptoSaid : Prop := plugRowUptoRow.holds Try.pinned (OpenSpec.upto plugRowSpec)

/-- 'catafalquelaw20.PlugBack', WHERE WHAT IT READS IS OF BULK AT MOST 1048576: true; the input reads as it did. -/
def plugBackUptoRow : OpenClaim := { program := "ytmnpiofabgfcmaa", sum := "7f3641bc539cb57b82fcae69ee60024f1a40b43285fca1aae3f289791b884f44", func := "catafalque/catafalquelaw20.PlugBack", spec := "plugBack", unfollowed := true, recurses := true, apart := false, narrowed := true }
def PlugBackUptoSaid : Prop := plugBackUptoRow.holds Try.pinned (OpenSpec.upto plugBackSpec)

/-- 'catafalquelaw16.FindLocals', WHERE WHAT IT READS IS OF BULK AT MOST 1048576: true; the input reads as it did. -/
def findLocalsUptoRow : OpenClaim := { program := "ytmnpiofabgfcmaa", sum := "7f3641bc539cb57b82fcae69ee60024f1a40b43285fca1aae3f289791b884f44", func := "catafalque/catafalquelaw16.FindLocals", spec := "findLocals", unfollowed := true, recurses := true, apart := false, narrowed := true }
def FindLocalsUptoSaid : Prop := findLocalsUptoRow.holds Try.pinned (OpenSpec.upto findLocalsSpec)

/-- 'catafalquelaw16.FindAll', WHERE WHAT IT READS IS OF BULK AT MOST 1048576: true; the input reads as it did. -/
def findAllUptoRow : OpenClaim := { program := "ytmnpiofabgfcmaa", sum := "7f3641bc539cb57b82fcae69ee60024f1a40b43285fca1aae3f289791b884f44", func := "catafalque/catafalquelaw16.FindAll", spec := "findAll", unfollowed := true, recurses := true, apart := false, narrowed := true }
def FindAllUptoSaid : Prop := findAllUptoRow.holds Try.pinned (OpenSpec.upto findAllSpec)

/-- 'catafalquelaw16.FindOthers', WHERE WHAT IT READS IS OF BULK AT MOST 1048576: true; the input reads as it did. -/
def findOthersUptoRow : OpenClaim := { program := "ytmnpiofabgfcmaa", sum := "7f3641bc539cb57b82fcae69ee60024f1a40b43285fca1aae3f289791b884f44", func := "catafalque/catafalquelaw16.FindOthers", spec := "findOthers", unfollowed := true, recurses := true, apart := false, narrowed := true }
def FindOthersUptoSaid : Prop := findOthersUptoRow.holds Try.pinned (OpenSpec.upto findOthersSpec)

/-- 'catafalquelaw16.FindTurns', WHERE WHAT IT READS IS OF BULK AT MOST 1048576: true; the input reads as it did. -/
def findTurnsUptoRow : OpenClaim := { program := "ytmnpiofabgfcmaa", sum := "7f3641bc539cb57b82fcae69ee60024f1a40b43285fca1aae3f289791b884f44", func := "catafalque/catafalquelaw16.FindTurns", spec := "findTurns", unfollowed := true, recurses := true, apart := false, narrowed := true }
def FindTurnsUptoSaid : Prop := findTurnsUptoRow.holds Try.pinned (OpenSpec.upto findTurnsSpec)

/-- 'catafalquelaw16.FindSome', WHERE WHAT IT READS IS OF BULK AT MOST 1048576: true; the input reads as it did. -/
def findSomeUptoRow : OpenClaim := { program := "ytmnpiofabgfcmaa", sum := "7f3641bc539cb57b82fcae69ee60024f1a40b43285fca1aae3f289791b884f44", func := "catafalque/catafalquelaw16.FindSome", spec := "findSome", unfollowed := true, recurses := true, apart := false, narrowed := true }
def FindSomeUptoSaid : Prop := findSomeUptoRow.holds Try.pinned (OpenSpec.upto findSomeSpec)

/-- 'catafalquelaw19.BalanceTells', WHERE WHAT IT READS IS OF BULK AT MOST 1048576: true; the input reads as it did. -/
def balanceTellsUptoRow : OpenClaim := { program := "ytmnpiofabgfcmaa", sum := "7f3641bc539cb57b82fcae69ee60024f1a40b43285fca1aae3f289791b884f44", func := "catafalque/catafalquelaw19.BalanceTells", spec := "balanceTells", unfollowed := true, recurses := true, apart := false, narrowed := true }
def BalanceTellsUptoSaid : Prop := balanceTellsUptoRow.holds Try.pinned (OpenSpec.upto balanceTellsSpec)

/-- 'catafalquelaw19.BalanceKeeps', WHERE WHAT IT READS IS OF BULK AT MOST 1048576: true; the input reads as it did. -/
def balanceKeepsUptoRow : OpenClaim := { program := "ytmnpiofabgfcmaa", sum := "7f3641bc539cb57b82fcae69ee60024f1a40b43285fca1aae3f289791b884f44", func := "catafalque/catafalquelaw19.BalanceKeeps", spec := "balanceKeeps", unfollowed := true, recurses := true, apart := false, narrowed := true }
def BalanceKeepsUptoSaid : Prop := balanceKeepsUptoRow.holds Try.pinned (OpenSpec.upto balanceKeepsSpec)

/-- 'catafalquelaw19.BalanceEnds', WHERE WHAT IT READS IS OF BULK AT MOST 1048576: true; the input reads as it did. -/
def balanceEndsUptoRow : OpenClaim := { program := "ytmnpiofabgfcmaa", sum := "7f3641bc539cb57b82fcae69ee60024f1a40b43285fca1aae3f289791b884f44", func := "catafalque/catafalquelaw19.BalanceEnds", spec := "balanceEnds", unfollowed := true, recurses := true, apart := false, narrowed := true }
def BalanceEndsUptoSaid : Prop := balanceEndsUptoRow.holds Try.pinned (OpenSpec.upto balanceEndsSpec)

/-- 'catafalquelaw19.BalanceOthers', WHERE WHAT IT READS IS OF BULK AT MOST 1048576: true; the input reads as it did. -/
def balanceOthersUptoRow : OpenClaim := { program := "ytmnpiofabgfcmaa", sum := "7f3641bc539cb57b82fcae69ee60024f1a40b43285fca1aae3f289791b884f44", func := "catafalque/catafalquelaw19.BalanceOthers", spec := "balanceOthers", unfollowed := true, recurses := true, apart := false, narrowed := true }
def BalanceOthersUptoSaid : Prop := balanceOthersUptoRow.holds Try.pinned (OpenSpec.upto balanceOthersSpec)

/-- 'catafalquelaw19.BalanceNone', WHERE WHAT IT READS IS OF BULK AT MOST 1048576: true; the input reads as it did. -/
def balanceNoneUptoRow : OpenClaim := { program := "ytmnpiofabgfcmaa", sum := "7f3641bc539cb57b82fcae69ee60024f1a40b43285fca1aae3f289791b884f44", func := "catafalque/catafalquelaw19.BalanceNone", spec := "balanceNone", unfollowed := true, recurses := true, apart := false, narrowed := true }
def BalanceNoneUptoSaid : Prop := balanceNoneUptoRow.holds Try.pinned (OpenSpec.upto balanceNoneSpec)

/-- 'catafalquelaw19.BalanceRings', WHERE WHAT IT READS IS OF BULK AT MOST 1048576: true; the input reads as it did. -/
def balanceRingsUptoRow : OpenClaim := { program := "ytmnpiofabgfcmaa", sum := "7f3641bc539cb57b82fcae69ee60024f1a40b43285fca1aae3f289791b884f44", func := "catafalque/catafalquelaw19.BalanceRings", spec := "balanceRings", unfollowed := true, recurses := true, apart := false, narrowed := true }
def BalanceRingsUptoSaid : Prop := balanceRingsUptoRow.holds Try.pinned (OpenSpec.upto balanceRingsSpec)

end Rows
end Go.Proofs.Ytmnpiofabgfcmaa
