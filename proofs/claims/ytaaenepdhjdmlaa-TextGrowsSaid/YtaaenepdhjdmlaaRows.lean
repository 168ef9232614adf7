/-
  No cell of these rows narrows 'for every input' (looked for: loops, veiled, ifaces, maps, wideKeys, modest, calm, conditions, laid).
  DERIVED. THE GIVEN ROWS OF THIS SEAT. 6 by the template 'for every input the law returns true; each argument reads behind the call as it read before'; 0 by the template 'total and deterministic' (their statements: YtaaenepdhjdmlaaTotals.lean).
  GIVEN WITH THE SEED: the statements are not yours to turn. If you find one false, say at which input.
  Laid BY PROGRAM, IN A SANDBOX (cutbox-rows.mjs): the forced cells as the released guide's own fill.sh prints them over the translation e5075f8b1b803b01… (all of the seat's roots in one cut). By AI agents, Wed Nov 11 2026. No macro, syntax, notation, axiom, sorry.
-/
import Derived.Test.YtaaenepdhjdmlaaChecked
import GoSem.Claim
import GoSem.ClaimJoined
import GoSem.ClaimMapViews
import Derived.JoinedTies
import Derived.KernelRfl
namespace Go.Proofs.Ytaaenepdhjdmlaa
/- THE CELL 'sum', in the pinned program and in every row, IS THE sha256 OF THE DUMP (.gsa) THAT YtaaenepdhjdmlaaProg.lean LOADS. Nothing in Lean hashes anything: it is a label: what it is worth is what the hold of that sum in a sandbox is worth. -/
noncomputable def Try.pinned : Pinned := { name := "ytaaenepdhjdmlaa", sum := "e5075f8b1b803b0197cde0dfff0d5604350c794614c0682f6dc42100851e1af2", checked := Try.checked }
namespace Rows
def none {H : Type} : Left H := { results := [], args := [] }

/-- 'catafalquelaw03.TextParses': WHATEVER THE INPUT: true; the input reads as it did. -/
def textParsesSpec : ChangeSpec := { name := "textParses", fn := fun _ => fun
  | [d1, d2] => { results := [.lit (.bool true)], args := [d1, d2] }
  | _ => none }
def textParsesRow : OpenClaim := { program := "ytaaenepdhjdmlaa", sum := "e5075f8b1b803b0197cde0dfff0d5604350c794614c0682f6dc42100851e1af2", func := "catafalque/catafalquelaw03.TextParses", spec := "textParses", inPlace := ["internal/abi.NoEscape"], recurses := true, apart := false }
def TextParsesSaid : Prop := textParsesRow.holds Try.pinned (OpenSpec.ofChange textParsesSpec)

/-- ITS FALSE NEIGHBOUR: 'it returns false'. Refute it at one input. -/
def textParsesWrong : ChangeSpec := { name := "textParses", fn := fun _ => fun
  | [d1, d2] => { results := [.lit (.bool false)], args := [d1, d2] }
  | _ => none }
def TextParsesWrongFalsely : Prop := textParsesRow.holds Try.pinned (OpenSpec.ofChange textParsesWrong)

/-- 'catafalquelaw03.TextBegins': WHATEVER THE INPUT: true; the input reads as it did. -/
def textBeginsSpec : ChangeSpec := { name := "textBegins", fn := fun _ => fun
  | [d1, d2, d3] => { results := [.lit (.bool true)], args := [d1, d2, d3] }
  | _ => none }
def textBeginsRow : OpenClaim := { program := "ytaaenepdhjdmlaa", sum := "e5075f8b1b803b0197cde0dfff0d5604350c794614c0682f6dc42100851e1af2", func := "catafalque/catafalquelaw03.TextBegins", spec := "textBegins", inPlace := ["internal/abi.NoEscape"], recurses := true, apart := false }
def TextBeginsSaid : Prop := textBeginsRow.holds Try.pinned (OpenSpec.ofChange textBeginsSpec)

/-- ITS FALSE NEIGHBOUR: 'it returns false'. Refute it at one input. -/
def textBeginsWrong : ChangeSpec := { name := "textBegins", fn := fun _ => fun
  | [d1, d2, d3] => { results := [.lit (.bool false)], args := [d1, d2, d3] }
  | _ => none }
def TextBeginsWrongFalsely : Prop := textBeginsRow.holds Try.pinned (OpenSpec.ofChange textBeginsWrong)

/-- 'catafalquelaw03.TextCounts': WHATEVER THE INPUT: true; the input reads as it did. -/
def textCountsSpec : ChangeSpec := { name := "textCounts", fn := fun _ => fun
  | [d] => { results := [.lit (.bool true)], args := [d] }
  | _ => none }
def textCountsRow : OpenClaim := { program := "ytaaenepdhjdmlaa", sum := "e5075f8b1b803b0197cde0dfff0d5604350c794614c0682f6dc42100851e1af2", func := "catafalque/catafalquelaw03.TextCounts", spec := "textCounts", inPlace := ["internal/abi.NoEscape"], recurses := true, apart := false }
def TextCountsSaid : Prop := textCountsRow.holds Try.pinned (OpenSpec.ofChange textCountsSpec)

/-- ITS FALSE NEIGHBOUR: 'it returns false'. Refute it at one input. -/
def textCountsWrong : ChangeSpec := { name := "textCounts", fn := fun _ => fun
  | [d] => { results := [.lit (.bool false)], args := [d] }
  | _ => none }
def TextCountsWrongFalsely : Prop := textCountsRow.holds Try.pinned (OpenSpec.ofChange textCountsWrong)

/-- 'catafalquelaw03.TextGrows': WHATEVER THE INPUT: true; the input reads as it did. -/
def textGrowsSpec : ChangeSpec := { name := "textGrows", fn := fun _ => fun
  | [d1, d2, d3] => { results := [.lit (.bool true)], args := [d1, d2, d3] }
  | _ => none }
def textGrowsRow : OpenClaim := { program := "ytaaenepdhjdmlaa", sum := "e5075f8b1b803b0197cde0dfff0d5604350c794614c0682f6dc42100851e1af2", func := "catafalque/catafalquelaw03.TextGrows", spec := "textGrows", inPlace := ["internal/abi.NoEscape"], recurses := true, apart := false }
def TextGrowsSaid : Prop := textGrowsRow.holds Try.pinned (OpenSpec.ofChange textGrowsSpec)

/-- ITS FALSE NEIGHBOUR: 'it returns false'. Refute it at one input. -/
def textGrowsWrong : ChangeSpec := { name := "textGrows", fn := fun _ => fun
  | [d1, d2, d3] => { results := [.lit (.bool false)], args := [d1, d2, d3] }
  | _ => none }
def TextGrowsWrongFalsely : Prop := textGrowsRow.holds Try.pinned (OpenSpec.ofChange textGrowsWrong)

/-- 'catafalquelaw03.TextBack': WHATEVER THE INPUT: true; the input reads as it did. -/
def textBackSpec : ChangeSpec := { name := "textBack", fn := fun _ => fun
  | [d1, d2] => { results := [.lit (.bool true)], args := [d1, d2] }
  | _ => none }
def textBackRow : OpenClaim := { program := "ytaaenepdhjdmlaa", sum := "e5075f8b1b803b0197cde0dfff0d5604350c794614c0682f6dc42100851e1af2", func := "catafalque/catafalquelaw03.TextBack", spec := "textBack", inPlace := ["internal/abi.NoEscape"], recurses := true, apart := false }
def TextBackSaid : Prop := textBackRow.holds Try.pinned (OpenSpec.ofChange textBackSpec)

/-- ITS FALSE NEIGHBOUR: 'it returns false'. Refute it at one input. -/
def textBackWrong : ChangeSpec := { name := "textBack", fn := fun _ => fun
  | [d1, d2] => { results := [.lit (.bool false)], args := [d1, d2] }
  | _ => none }
def TextBackWrongFalsely : Prop := textBackRow.holds Try.pinned (OpenSpec.ofChange textBackWrong)

/-- 'catafalquelaw03.TextTurns': WHATEVER THE INPUT: true; the input reads as it did. -/
def textTurnsSpec : ChangeSpec := { name := "textTurns", fn := fun _ => fun
  | [d] => { results := [.lit (.bool true)], args := [d] }
  | _ => none }
def textTurnsRow : OpenClaim := { program := "ytaaenepdhjdmlaa", sum := "e5075f8b1b803b0197cde0dfff0d5604350c794614c0682f6dc42100851e1af2", func := "catafalque/catafalquelaw03.TextTurns", spec := "textTurns", inPlace := ["internal/abi.NoEscape"], recurses := true, apart := false }
def TextTurnsSaid : Prop := textTurnsRow.holds Try.pinned (OpenSpec.ofChange textTurnsSpec)

/-- ITS FALSE NEIGHBOUR: 'it returns false'. Refute it at one input. -/
def textTurnsWrong : ChangeSpec := { name := "textTurns", fn := fun _ => fun
  | [d] => { results := [.lit (.bool false)], args := [d] }
  | _ => none }
def TextTurnsWrongFalsely : Prop := textTurnsRow.holds Try.pinned (OpenSpec.ofChange textTurnsWrong)

/- THE SECOND FORM. 'bulk': how many values and letters a reading holds, each counted each time it is reached (what is shared counts as often as it is met; a slice's spare places count too). A statement '..UptoSaid' is the law's where the arguments, and the package variables that the reading takes, are together of bulk at most 1048576: NARROWER than '..Said'. Prove '..Said' where nothing that the law and all that it calls make is longer than what came in: it says more and counts as full. Else prove '..UptoSaid'. A law counts once. -/
mutual
def uptoBulk {H : Type} : DataW H → Nat
  | .lit (.string bytes) => bytes.length + 1
  | .lit _ => 1
  | .nil => 1
  | .ptr d => uptoBulk d + 1
  | .slice elems spare => uptoBulkAll elems + uptoBulkAll spare + 1
  | .agg parts => uptoBulkAll parts + 1
  | .iface _ d => uptoBulk d + 1
  | .map entries => uptoBulkEntries entries + 1
  | .held _ => 1
def uptoBulkAll {H : Type} : List (DataW H) → Nat
  | [] => 0
  | d :: r => uptoBulk d + uptoBulkAll r
def uptoBulkEntries {H : Type} : List (Lit × DataW H) → Nat
  | [] => 0
  | x :: r => uptoBulkEntry x + uptoBulkEntries r
def uptoBulkEntry {H : Type} : Lit × DataW H → Nat
  | (.string bytes, d) => bytes.length + uptoBulk d + 1
  | (_, d) => uptoBulk d + 1
 end
def uptoSmall : (H : Type) → List (DataW H) → Bool := fun _ ds => decide (uptoBulkAll ds ≤ 1048576)
def OpenSpec.upto (s : _root_.Go.ChangeSpec) : _root_.Go.OpenSpec := { _root_.Go.OpenSpec.ofChange s with cond := some uptoSmall }

/-- 'catafalquelaw03.TextParses', WHERE WHAT IT READS IS OF BULK AT MOST 1048576: true; the input reads as it did. -/
def textParsesUptoRow : OpenClaim := { program := "ytaaenepdhjdmlaa", sum := "e5075f8b1b803b0197cde0dfff0d5604350c794614c0682f6dc42100851e1af2", func := "catafalque/catafalquelaw03.TextParses", spec := "textParses", inPlace := ["internal/abi.NoEscape"], recurses := true, apart := false, narrowed := true }
def TextParsesUptoSaid : Prop := textParsesUptoRow.holds Try.pinned (OpenSpec.upto textParsesSpec)

/-- 'catafalquelaw03.TextBegins', WHERE WHAT IT READS IS OF BULK AT MOST 1048576: true; the input reads as it did. -/
def textBeginsUptoRow : OpenClaim := { program := "ytaaenepdhjdmlaa", sum := "e5075f8b1b803b0197cde0dfff0d5604350c794614c0682f6dc42100851e1af2", func := "catafalque/catafalquelaw03.TextBegins", spec := "textBegins", inPlace := ["internal/abi.NoEscape"], recurses := true, apart := false, narrowed := true }
def TextBeginsUptoSaid : Prop := textBeginsUptoRow.holds Try.pinned (OpenSpec.upto textBeginsSpec)

/-- 'catafalquelaw03.TextCounts', WHERE WHAT IT READS IS OF BULK AT MOST 1048576: true; the input reads as it did. -/
def textCountsUptoRow : OpenClaim := { program := "ytaaenepdhjdmlaa", sum := "e5075f8b1b803b0197cde0dfff0d5604350c794614c0682f6dc42100851e1af2", func := "catafalque/catafalquelaw03.TextCounts", spec := "textCounts", inPlace := ["internal/abi.NoEscape"], recurses := true, apart := false, narrowed := true }
def TextCountsUptoSaid : Prop := textCountsUptoRow.holds Try.pinned (OpenSpec.upto textCountsSpec)

/-- 'catafalquelaw03.TextGrows', WHERE WHAT IT READS IS OF BULK AT MOST 1048576: true; the input reads as it did. -/
def textGrowsUptoRow : OpenClaim := { program := "ytaaenepdhjdmlaa", sum := "e5075f8b1b803b0197cde0dfff0d5604350c794614c0682f6dc42100851e1af2", func := "catafalque/catafalquelaw03.TextGrows", spec := "textGrows", inPlace := ["internal/abi.NoEscape"], recurses := true, apart := false, narrowed := true }
def TextGrowsUptoSaid : Prop := textGrowsUptoRow.holds Try.pinned (OpenSpec.upto textGrowsSpec)

/-- 'catafalquelaw03.TextBack', WHERE WHAT IT READS IS OF BULK AT MOST 1048576: true; the input reads as it did. -/
def textBackUptoRow : OpenClaim := { program := "ytaaenepdhjdmlaa", sum := "e5075f8b1b803b0197cde0dfff0d5604350c794614c0682f6dc42100851e1af2", func := "catafalque/catafalquelaw03.TextBack", spec := "textBack", inPlace := ["internal/abi.NoEscape"], recurses := true, apart := false, narrowed := true }
def TextBackUptoSaid : Prop := textBackUptoRow.holds Try.pinned (OpenSpec.upto textBackSpec)

/-- 'catafalquelaw03.TextTurns', WHERE WHAT IT READS IS OF BULK AT MOST 1048576: true; the input reads as it did. -/
def textTurnsUptoRow : OpenClaim := { program := "ytaaenepdhjdmlaa", sum := "e5075f8b1b803b0197cde0dfff0d5604350c794614c0682f6dc42100851e1af2", func := "catafalque/catafalquelaw03.TextTurns", spec := "textTurns", inPlace := ["internal/abi.NoEscape"], recurses := true, apart := false, narrowed := true }
def TextTurnsUptoSaid : Prop := textTurnsUptoRow.holds Try.pinned (OpenSpec.upto textTurnsSpec)

end Rows
end Go.Proofs.Ytaaenepdhjdmlaa
