/-
  No cell of these rows narrows 'for every input' (looked for: loops, veiled, ifaces, maps, wideKeys, modest, calm, conditions, laid).
  DERIVED. THE GIVEN ROWS OF THIS SEAT. 3 by the template 'for every input the law returns true; each argument reads behind the call as it read before'; 0 by the template 'total and deterministic' (their statements: YtmdnohhjeooahaaTotals.lean).
  GIVEN WITH THE SEED: the statements are not yours to turn. If you find one false, say at which input.
  Laid BY PROGRAM, IN A SANDBOX (cutbox-rows.mjs): the forced cells as the released guide's own fill.sh prints them over the translation 2bb294b00b41ed15… (all of the seat's roots in one cut). By AI agents, Wed Nov 11 2026. No macro, syntax, notation, axiom, sorry.
-/
import Derived.Test.YtmdnohhjeooahaaChecked
import GoSem.Claim
import GoSem.ClaimJoined
import GoSem.ClaimMapViews
import Derived.JoinedTies
import Derived.KernelRfl
namespace Go.Proofs.Ytmdnohhjeooahaa
/- THE CELL 'sum', in the pinned program and in every row, IS THE sha256 OF THE DUMP (.gsa) THAT YtmdnohhjeooahaaProg.lean LOADS. Nothing in Lean hashes anything: it is a label: what it is worth is what the hold of that sum in a sandbox is worth. -/
noncomputable def Try.pinned : Pinned := { name := "ytmdnohhjeooahaa", sum := "2bb294b00b41ed152276785b4f667a032e51425a230a148d9062b5dab5b2f8a0", checked := Try.checked }
namespace Rows
def none {H : Type} : Left H := { results := [], args := [] }

/-- 'catafalquelaw06.BitsTells': WHATEVER THE INPUT: true; the input reads as it did. -/
def bitsTellsSpec : ChangeSpec := { name := "bitsTells", fn := fun _ => fun
  | [d1, d2, d3] => { results := [.lit (.bool true)], args := [d1, d2, d3] }
  | _ => none }
def bitsTellsRow : OpenClaim := { program := "ytmdnohhjeooahaa", sum := "2bb294b00b41ed152276785b4f667a032e51425a230a148d9062b5dab5b2f8a0", func := "catafalque/catafalquelaw06.BitsTells", spec := "bitsTells", apart := false }
def BitsTellsSaid : Prop := bitsTellsRow.holds Try.pinned (OpenSpec.ofChange bitsTellsSpec)

/-- ITS FALSE NEIGHBOUR: 'it returns false'. Refute it at one input. -/
def bitsTellsWrong : ChangeSpec := { name := "bitsTells", fn := fun _ => fun
  | [d1, d2, d3] => { results := [.lit (.bool false)], args := [d1, d2, d3] }
  | _ => none }
def BitsTellsWrongFalsely : Prop := bitsTellsRow.holds Try.pinned (OpenSpec.ofChange bitsTellsWrong)

/-- 'catafalquelaw01.TopoTurned': WHATEVER THE INPUT: true; the input reads as it did. -/
def topoTurnedSpec : ChangeSpec := { name := "topoTurned", fn := fun _ => fun
  | [d1, d2] => { results := [.lit (.bool true)], args := [d1, d2] }
  | _ => none }
def topoTurnedRow : OpenClaim := { program := "ytmdnohhjeooahaa", sum := "2bb294b00b41ed152276785b4f667a032e51425a230a148d9062b5dab5b2f8a0", func := "catafalque/catafalquelaw01.TopoTurned", spec := "topoTurned", apart := false }
def TopoTurnedSaid : Prop := topoTurnedRow.holds Try.pinned (OpenSpec.ofChange topoTurnedSpec)

/-- ITS FALSE NEIGHBOUR: 'it returns false'. Refute it at one input. -/
def topoTurnedWrong : ChangeSpec := { name := "topoTurned", fn := fun _ => fun
  | [d1, d2] => { results := [.lit (.bool false)], args := [d1, d2] }
  | _ => none }
def TopoTurnedWrongFalsely : Prop := topoTurnedRow.holds Try.pinned (OpenSpec.ofChange topoTurnedWrong)

/-- 'catafalquelaw01.TopoProcs': WHATEVER THE INPUT: true; the input reads as it did. -/
def topoProcsSpec : ChangeSpec := { name := "topoProcs", fn := fun _ => fun
  | [d] => { results := [.lit (.bool true)], args := [d] }
  | _ => none }
def topoProcsRow : OpenClaim := { program := "ytmdnohhjeooahaa", sum := "2bb294b00b41ed152276785b4f667a032e51425a230a148d9062b5dab5b2f8a0", func := "catafalque/catafalquelaw01.TopoProcs", spec := "topoProcs", apart := false }
def TopoProcsSaid : Prop := topoProcsRow.holds Try.pinned (OpenSpec.ofChange topoProcsSpec)

/-- ITS FALSE NEIGHBOUR: 'it returns false'. Refute it at one input. -/
def topoProcsWrong : ChangeSpec := { name := "topoProcs", fn := fun _ => fun
  | [d] => { results := [.lit (.bool false)], args := [d] }
  | _ => none }
def TopoProcsWrongFalsely : Prop := topoProcsRow.holds Try.pinned (OpenSpec.ofChange topoProcsWrong)

/- THE SECOND FORM. 'bulk': how many values and letters a reading holds, each counted each time it is reached (what is shared counts as often as it is met; a slice's spare places count too). A statement '..UptoSaid' is the law's where the arguments, and the package variables that the reading takes, are together of bulk at most 1048576: NARROWER than '..Said'. Prove '..Said' where nothing that the law and all that it calls make is longer than what came in: it says more and counts as full. Else prove '..UptoSaid'. A law counts once. -/
mutual
def uptoBulk {H : Type} : DataW H → Nat
  | .lit (.string bytes) => bytes.length + 1
  | .lit _ => 1
  | .nil => 1
  | .ptr d => uptoBulk d + 1
  | .slice elems spare => uptoBulkAll elems + uptoBulkAll spare + 1
  | .agg parts => uptoBulkAll parts + 1
  | .iface _ d => uptoBulk d + 1
  | .map entries => uptoBulkEntries entries + 1
  | .held _ => 1
def uptoBulkAll {H : Type} : List (DataW H) → Nat
  | [] => 0
  | d :: r => uptoBulk d + uptoBulkAll r
def uptoBulkEntries {H : Type} : List (Lit × DataW H) → Nat
  | [] => 0
  | x :: r => uptoBulkEntry x + uptoBulkEntries r
def uptoBulkEntry {H : Type} : Lit × DataW H → Nat
  | (.string bytes, d) => bytes.length + uptoBulk d + 1
  | (_, d) => uptoBulk d + 1
 end
def uptoSmall : (H : Type) → List (DataW H) → Bool := fun _ ds => decide (uptoBulkAll ds ≤ 1048576)
def OpenSpec.upto (s : _root_.Go.ChangeSpec) : _root_.Go.OpenSpec := { _root_.Go.OpenSpec.ofChange s with cond := some uptoSmall }

/-- 'catafalquelaw06.BitsTells', WHERE WHAT IT READS IS OF BULK AT MOST 1048576: true; the input reads as it did. -/
def bitsTellsUptoRow : OpenClaim := { program := "ytmdnohhjeooahaa", sum := "2bb294b00b41ed152276785b4f667a032e51425a230a148d9062b5dab5b2f8a0", func := "catafalque/catafalquelaw06.BitsTells", spec := "bitsTells", apart := false, narrowed := true }
def BitsTellsUptoSaid : Prop := bitsTellsUptoRow.holds Try.pinned (OpenSpec.upto bitsTellsSpec)

/-- 'catafalquelaw01.TopoTurned', WHERE WHAT IT READS IS OF BULK AT MOST 1048576: true; the input reads as it did. -/
def topoTurnedUptoRow : OpenClaim := { program := "ytmdnohhjeooahaa", sum := "2bb294b00b41ed152276785b4f667a032e51425a230a148d9062b5dab5b2f8a0", func := "catafalque/catafalquelaw01.TopoTurned", spec := "topoTurned", apart := false, narrowed := true }
def TopoTurnedUptoSaid : Prop := topoTurnedUptoRow.holds Try.pinned (OpenSpec.upto topoTurnedSpec)

/-- 'catafalquelaw01.TopoProcs', WHERE WHAT IT READS IS OF BULK AT MOST 1048576: true; the input reads as it did. -/
def topoProcsUptoRow : OpenClaim := { program := "ytmdnohhjeooahaa", sum := "2bb294b00b41ed152276785b4f667a032e51425a230a148d9062b5dab5b2f8a0", func := "catafalque/catafalquelaw01.TopoProcs", spec := "topoProcs", apart := false, narrowed := true }
def TopoProcsUptoSaid : Prop := topoProcsUptoRow.holds Try.pinned (OpenSpec.upto topoProcsSpec)

end Rows
end Go.Proofs.Ytmdnohhjeooahaa
