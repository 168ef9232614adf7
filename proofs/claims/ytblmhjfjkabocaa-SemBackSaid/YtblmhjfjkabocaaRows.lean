/-
  No cell of these rows narrows 'for every input' (looked for: loops, veiled, ifaces, maps, wideKeys, modest, calm, conditions, laid).
  DERIVED. THE GIVEN ROWS OF THIS SEAT. 10 by the template 'for every input the law returns true; each argument reads behind the call as it read before'; 0 by the template 'total and deterministic' (their statements: YtblmhjfjkabocaaTotals.lean).
  GIVEN WITH THE SEED: the statements are not yours to turn. If you find one false, say at which input.
  Laid BY PROGRAM, IN A SANDBOX (cutbox-rows.mjs): the forced cells as the released guide's own fill.sh prints them over the translation 3097f78c322d8fb9… (all of the seat's roots in one cut). By AI agents, Wed Nov 11 2026. No macro, syntax, notation, axiom, sorry.
-/
import Derived.Test.YtblmhjfjkabocaaChecked
import GoSem.Claim
import GoSem.ClaimJoined
import GoSem.ClaimMapViews
import Derived.JoinedTies
import Derived.KernelRfl
namespace Go.Proofs.Ytblmhjfjkabocaa
/- THE CELL 'sum', in the pinned program and in every row, IS THE sha256 OF THE DUMP (.gsa) THAT YtblmhjfjkabocaaProg.lean LOADS. Nothing in Lean hashes anything: it is a label: what it is worth is what the hold of that sum in a sandbox is worth. -/
noncomputable def Try.pinned : Pinned := { name := "ytblmhjfjkabocaa", sum := "3097f78c322d8fb94556de15a4d8c8424d4c68bb6ebe67aad31b2a920f012a89", checked := Try.checked }
namespace Rows
def none {H : Type} : Left H := { results := [], args := [] }

/-- 'catafalquelaw10.SemBack': WHATEVER THE INPUT: true; the input reads as it did. -/
def semBackSpec : ChangeSpec := { name := "semBack", fn := fun _ => fun
  | [d1, d2] => { results := [.lit (.bool true)], args := [d1, d2] }
  | _ => none }
def semBackRow : OpenClaim := { program := "ytblmhjfjkabocaa", sum := "3097f78c322d8fb94556de15a4d8c8424d4c68bb6ebe67aad31b2a920f012a89", func := "catafalque/catafalquelaw10.SemBack", spec := "semBack", apart := false }
def SemBackSaid : Prop := semBackRow.holds Try.pinned (OpenSpec.ofChange semBackSpec)

/-- ITS FALSE NEIGHBOUR: 'it returns false'. Refute it at one input. -/
def semBackWrong : ChangeSpec := { name := "semBack", fn := fun _ => fun
  | [d1, d2] => { results := [.lit (.bool false)], args := [d1, d2] }
  | _ => none }
def SemBackWrongFalsely : Prop := semBackRow.holds Try.pinned (OpenSpec.ofChange semBackWrong)

/-- 'catafalquelaw10.SemWakes': WHATEVER THE INPUT: true; the input reads as it did. -/
def semWakesSpec : ChangeSpec := { name := "semWakes", fn := fun _ => fun
  | [d1, d2] => { results := [.lit (.bool true)], args := [d1, d2] }
  | _ => none }
def semWakesRow : OpenClaim := { program := "ytblmhjfjkabocaa", sum := "3097f78c322d8fb94556de15a4d8c8424d4c68bb6ebe67aad31b2a920f012a89", func := "catafalque/catafalquelaw10.SemWakes", spec := "semWakes", apart := false }
def SemWakesSaid : Prop := semWakesRow.holds Try.pinned (OpenSpec.ofChange semWakesSpec)

/-- ITS FALSE NEIGHBOUR: 'it returns false'. Refute it at one input. -/
def semWakesWrong : ChangeSpec := { name := "semWakes", fn := fun _ => fun
  | [d1, d2] => { results := [.lit (.bool false)], args := [d1, d2] }
  | _ => none }
def SemWakesWrongFalsely : Prop := semWakesRow.holds Try.pinned (OpenSpec.ofChange semWakesWrong)

/-- 'catafalquelaw06.BitsOrder': WHATEVER THE INPUT: true; the input reads as it did. -/
def bitsOrderSpec : ChangeSpec := { name := "bitsOrder", fn := fun _ => fun
  | [d1, d2] => { results := [.lit (.bool true)], args := [d1, d2] }
  | _ => none }
def bitsOrderRow : OpenClaim := { program := "ytblmhjfjkabocaa", sum := "3097f78c322d8fb94556de15a4d8c8424d4c68bb6ebe67aad31b2a920f012a89", func := "catafalque/catafalquelaw06.BitsOrder", spec := "bitsOrder", apart := false }
def BitsOrderSaid : Prop := bitsOrderRow.holds Try.pinned (OpenSpec.ofChange bitsOrderSpec)

/-- ITS FALSE NEIGHBOUR: 'it returns false'. Refute it at one input. -/
def bitsOrderWrong : ChangeSpec := { name := "bitsOrder", fn := fun _ => fun
  | [d1, d2] => { results := [.lit (.bool false)], args := [d1, d2] }
  | _ => none }
def BitsOrderWrongFalsely : Prop := bitsOrderRow.holds Try.pinned (OpenSpec.ofChange bitsOrderWrong)

/-- 'catafalquelaw06.BitsBack': WHATEVER THE INPUT: true; the input reads as it did. -/
def bitsBackSpec : ChangeSpec := { name := "bitsBack", fn := fun _ => fun
  | [d1, d2] => { results := [.lit (.bool true)], args := [d1, d2] }
  | _ => none }
def bitsBackRow : OpenClaim := { program := "ytblmhjfjkabocaa", sum := "3097f78c322d8fb94556de15a4d8c8424d4c68bb6ebe67aad31b2a920f012a89", func := "catafalque/catafalquelaw06.BitsBack", spec := "bitsBack", apart := false }
def BitsBackSaid : Prop := bitsBackRow.holds Try.pinned (OpenSpec.ofChange bitsBackSpec)

/-- ITS FALSE NEIGHBOUR: 'it returns false'. Refute it at one input. -/
def bitsBackWrong : ChangeSpec := { name := "bitsBack", fn := fun _ => fun
  | [d1, d2] => { results := [.lit (.bool false)], args := [d1, d2] }
  | _ => none }
def BitsBackWrongFalsely : Prop := bitsBackRow.holds Try.pinned (OpenSpec.ofChange bitsBackWrong)

/-- 'catafalquelaw06.BitsNext': WHATEVER THE INPUT: true; the input reads as it did. -/
def bitsNextSpec : ChangeSpec := { name := "bitsNext", fn := fun _ => fun
  | [d1, d2] => { results := [.lit (.bool true)], args := [d1, d2] }
  | _ => none }
def bitsNextRow : OpenClaim := { program := "ytblmhjfjkabocaa", sum := "3097f78c322d8fb94556de15a4d8c8424d4c68bb6ebe67aad31b2a920f012a89", func := "catafalque/catafalquelaw06.BitsNext", spec := "bitsNext", apart := false }
def BitsNextSaid : Prop := bitsNextRow.holds Try.pinned (OpenSpec.ofChange bitsNextSpec)

/-- ITS FALSE NEIGHBOUR: 'it returns false'. Refute it at one input. -/
def bitsNextWrong : ChangeSpec := { name := "bitsNext", fn := fun _ => fun
  | [d1, d2] => { results := [.lit (.bool false)], args := [d1, d2] }
  | _ => none }
def BitsNextWrongFalsely : Prop := bitsNextRow.holds Try.pinned (OpenSpec.ofChange bitsNextWrong)

/-- 'catafalquelaw06.BitsJoins': WHATEVER THE INPUT: true; the input reads as it did. -/
def bitsJoinsSpec : ChangeSpec := { name := "bitsJoins", fn := fun _ => fun
  | [d1, d2, d3] => { results := [.lit (.bool true)], args := [d1, d2, d3] }
  | _ => none }
def bitsJoinsRow : OpenClaim := { program := "ytblmhjfjkabocaa", sum := "3097f78c322d8fb94556de15a4d8c8424d4c68bb6ebe67aad31b2a920f012a89", func := "catafalque/catafalquelaw06.BitsJoins", spec := "bitsJoins", apart := false }
def BitsJoinsSaid : Prop := bitsJoinsRow.holds Try.pinned (OpenSpec.ofChange bitsJoinsSpec)

/-- ITS FALSE NEIGHBOUR: 'it returns false'. Refute it at one input. -/
def bitsJoinsWrong : ChangeSpec := { name := "bitsJoins", fn := fun _ => fun
  | [d1, d2, d3] => { results := [.lit (.bool false)], args := [d1, d2, d3] }
  | _ => none }
def BitsJoinsWrongFalsely : Prop := bitsJoinsRow.holds Try.pinned (OpenSpec.ofChange bitsJoinsWrong)

/-- 'catafalquelaw06.BitsCounts': WHATEVER THE INPUT: true; the input reads as it did. -/
def bitsCountsSpec : ChangeSpec := { name := "bitsCounts", fn := fun _ => fun
  | [d1, d2] => { results := [.lit (.bool true)], args := [d1, d2] }
  | _ => none }
def bitsCountsRow : OpenClaim := { program := "ytblmhjfjkabocaa", sum := "3097f78c322d8fb94556de15a4d8c8424d4c68bb6ebe67aad31b2a920f012a89", func := "catafalque/catafalquelaw06.BitsCounts", spec := "bitsCounts", apart := false }
def BitsCountsSaid : Prop := bitsCountsRow.holds Try.pinned (OpenSpec.ofChange bitsCountsSpec)

/-- ITS FALSE NEIGHBOUR: 'it returns false'. Refute it at one input. -/
def bitsCountsWrong : ChangeSpec := { name := "bitsCounts", fn := fun _ => fun
  | [d1, d2] => { results := [.lit (.bool false)], args := [d1, d2] }
  | _ => none }
def BitsCountsWrongFalsely : Prop := bitsCountsRow.holds Try.pinned (OpenSpec.ofChange bitsCountsWrong)

/-- 'catafalquelaw06.BitsTells': WHATEVER THE INPUT: true; the input reads as it did. -/
def bitsTellsSpec : ChangeSpec := { name := "bitsTells", fn := fun _ => fun
  | [d1, d2, d3] => { results := [.lit (.bool true)], args := [d1, d2, d3] }
  | _ => none }
def bitsTellsRow : OpenClaim := { program := "ytblmhjfjkabocaa", sum := "3097f78c322d8fb94556de15a4d8c8424d4c68bb6ebe67aad31b2a920f012a89", func := "catafalque/catafalquelaw06.BitsTells", spec := "bitsTells", apart := false }
def BitsTellsSaid : Prop := bitsTellsRow.holds Try.pinned (OpenSpec.ofChange bitsTellsSpec)

/-- ITS FALSE NEIGHBOUR: 'it returns false'. Refute it at one input. -/
def bitsTellsWrong : ChangeSpec := { name := "bitsTells", fn := fun _ => fun
  | [d1, d2, d3] => { results := [.lit (.bool false)], args := [d1, d2, d3] }
  | _ => none }
def BitsTellsWrongFalsely : Prop := bitsTellsRow.holds Try.pinned (OpenSpec.ofChange bitsTellsWrong)

/-- 'catafalquelaw10.SemPlays': WHATEVER THE INPUT: true; the input reads as it did. -/
def semPlaysSpec : ChangeSpec := { name := "semPlays", fn := fun _ => fun
  | [d1, d2] => { results := [.lit (.bool true)], args := [d1, d2] }
  | _ => none }
def semPlaysRow : OpenClaim := { program := "ytblmhjfjkabocaa", sum := "3097f78c322d8fb94556de15a4d8c8424d4c68bb6ebe67aad31b2a920f012a89", func := "catafalque/catafalquelaw10.SemPlays", spec := "semPlays", unfollowed := true, recurses := true, apart := false }
def SemPlaysSaid : Prop := semPlaysRow.holds Try.pinned (OpenSpec.ofChange semPlaysSpec)

/-- ITS FALSE NEIGHBOUR: 'it returns false'. Refute it at one input. -/
def semPlaysWrong : ChangeSpec := { name := "semPlays", fn := fun _ => fun
  | [d1, d2] => { results := [.lit (.bool false)], args := [d1, d2] }
  | _ => none }
def SemPlaysWrongFalsely : Prop := semPlaysRow.holds Try.pinned (OpenSpec.ofChange semPlaysWrong)

/-- 'catafalquelaw10.SemFull': WHATEVER THE INPUT: true; the input reads as it did. -/
def semFullSpec : ChangeSpec := { name := "semFull", fn := fun _ => fun
  | [d1, d2] => { results := [.lit (.bool true)], args := [d1, d2] }
  | _ => none }
def semFullRow : OpenClaim := { program := "ytblmhjfjkabocaa", sum := "3097f78c322d8fb94556de15a4d8c8424d4c68bb6ebe67aad31b2a920f012a89", func := "catafalque/catafalquelaw10.SemFull", spec := "semFull", unfollowed := true, recurses := true, apart := false }
def SemFullSaid : Prop := semFullRow.holds Try.pinned (OpenSpec.ofChange semFullSpec)

/-- ITS FALSE NEIGHBOUR: 'it returns false'. Refute it at one input. -/
def semFullWrong : ChangeSpec := { name := "semFull", fn := fun _ => fun
  | [d1, d2] => { results := [.lit (.bool false)], args := [d1, d2] }
  | _ => none }
def SemFullWrongFalsely : Prop := semFullRow.holds Try.pinned (OpenSpec.ofChange semFullWrong)

/- THE SECOND FORM. 'bulk': how many values and letters a reading holds, each counted each time it is reached (what is shared counts as often as it is met; a slice's spare places count too). A statement '..UptoSaid' is the law's where the arguments, and the package variables that the reading takes, are together of bulk at most 1048576: NARROWER than '..Said'. Prove '..Said' where nothing that the law and all that it calls make is longer than what came in: it says more and counts as full. Else prove '..UptoSaid'. A law counts once. -/
mutual
def uptoBulk {H : Type} : DataW H → Nat
  | .lit (.string bytes) => bytes.length + 1
  | .lit _ => 1
  | .nil => 1
  | .ptr d => uptoBulk d + 1
  | .slice elems spare => uptoBulkAll elems + uptoBulkAll spare + 1
  | .agg parts => uptoBulkAll parts + 1
  | .iface _ d => uptoBulk d + 1
  | .map entries => uptoBulkEntries entries + 1
  | .held _ => 1
def uptoBulkAll {H : Type} : List (DataW H) → Nat
  | [] => 0
  | d :: r => uptoBulk d + uptoBulkAll r
def uptoBulkEntries {H : Type} : List (Lit × DataW H) → Nat
  | [] => 0
  | x :: r => uptoBulkEntry x + uptoBulkEntries r
def uptoBulkEntry {H : Type} : Lit × DataW H → Nat
  | (.string bytes, d) => bytes.length + uptoBulk d + 1
  | (_, d) => uptoBulk d + 1
 end
def uptoSmall : (H : Type) → List (DataW H) → Bool := fun _ ds => decide (uptoBulkAll ds ≤ 1048576)
def OpenSpec.upto (s : _root_.Go.ChangeSpec) : _root_.Go.OpenSpec := { _root_.Go.OpenSpec.ofChange s with cond := some uptoSmall }

/-- 'catafalquelaw10.SemBack', WHERE WHAT IT READS IS OF BULK AT MOST 1048576: true; the input reads as it did. -/
def semBackUptoRow : OpenClaim := { program := "ytblmhjfjkabocaa", sum := "3097f78c322d8fb94556de15a4d8c8424d4c68bb6ebe67aad31b2a920f012a89", func := "catafalque/catafalquelaw10.SemBack", spec := "semBack", apart := false, narrowed := true }
def SemBackUptoSaid : Prop := semBackUptoRow.holds Try.pinned (OpenSpec.upto semBackSpec)

/-- 'catafalquelaw10.SemWakes', WHERE WHAT IT READS IS OF BULK AT MOST 1048576: true; the input reads as it did. -/
def semWakesUptoRow : OpenClaim := { program := "ytblmhjfjkabocaa", sum := "3097f78c322d8fb94556de15a4d8c8424d4c68bb6ebe67aad31b2a920f012a89", func := "catafalque/catafalquelaw10.SemWakes", spec := "semWakes", apart := false, narrowed := true }
def SemWakesUptoSaid : Prop := semWakesUptoRow.holds Try.pinned (OpenSpec.upto semWakesSpec)

/-- 'catafalquelaw06.BitsOrder', WHERE WHAT IT READS IS OF BULK AT MOST 1048576: true; the input reads as it did. -/
def bitsOrderUptoRow : OpenClaim := { program := "ytblmhjfjkabocaa", sum := "3097f78c322d8fb94556de15a4d8c8424d4c68bb6ebe67aad31b2a920f012a89", func := "catafalque/catafalquelaw06.BitsOrder", spec := "bitsOrder", apart := false, narrowed := true }
def BitsOrderUptoSaid : Prop := bitsOrderUptoRow.holds Try.pinned (OpenSpec.upto bitsOrderSpec)

/-- 'catafalquelaw06.BitsBack', WHERE WHAT IT READS IS OF BULK AT MOST 1048576: true; the input reads as it did. -/
def bitsBackUptoRow : OpenClaim := { program := "ytblmhjfjkabocaa", sum := "3097f78c322d8fb94556de15a4d8c8424d4c68bb6ebe67aad31b2a920f012a89", func := "catafalque/catafalquelaw06.BitsBack", spec := "bitsBack", apart := false, narrowed := true }
def BitsBackUptoSaid : Prop := bitsBackUptoRow.holds Try.pinned (OpenSpec.upto bitsBackSpec)

/-- 'catafalquelaw06.BitsNext', WHERE WHAT IT READS IS OF BULK AT MOST 1048576: true; the input reads as it did. -/
def bitsNextUptoRow : OpenClaim := { program := "ytblmhjfjkabocaa", sum := "3097f78c322d8fb94556de15a4d8c8424d4c68bb6ebe67aad31b2a920f012a89", func := "catafalque/catafalquelaw06.BitsNext", spec := "bitsNext", apart := false, narrowed := true }
def BitsNextUptoSaid : Prop := bitsNextUptoRow.holds Try.pinned (OpenSpec.upto bitsNextSpec)

/-- 'catafalquelaw06.BitsJoins', WHERE WHAT IT READS IS OF BULK AT MOST 1048576: true; the input reads as it did. -/
def bitsJoinsUptoRow : OpenClaim := { program := "ytblmhjfjkabocaa", sum := "3097f78c322d8fb94556de15a4d8c8424d4c68bb6ebe67aad31b2a920f012a89", func := "catafalque/catafalquelaw06.BitsJoins", spec := "bitsJoins", apart := false, narrowed := true }
def BitsJoinsUptoSaid : Prop := bitsJoinsUptoRow.holds Try.pinned (OpenSpec.upto bitsJoinsSpec)

/-- 'catafalquelaw06.BitsCounts', WHERE WHAT IT READS IS OF BULK AT MOST 1048576: true; the input reads as it did. -/
def bitsCountsUptoRow : OpenClaim := { program := "ytblmhjfjkabocaa", sum := "3097f78c322d8fb94556de15a4d8c8424d4c68bb6ebe67aad31b2a920f012a89", func := "catafalque/catafalquelaw06.BitsCounts", spec := "bitsCounts", apart := false, narrowed := true }
def BitsCountsUptoSaid : Prop := bitsCountsUptoRow.holds Try.pinned (OpenSpec.upto bitsCountsSpec)

/-- 'catafalquelaw06.BitsTells', WHERE WHAT IT READS IS OF BULK AT MOST 1048576: true; the input reads as it did. -/
def bitsTellsUptoRow : OpenClaim := { program := "ytblmhjfjkabocaa", sum := "3097f78c322d8fb94556de15a4d8c8424d4c68bb6ebe67aad31b2a920f012a89", func := "catafalque/catafalquelaw06.BitsTells", spec := "bitsTells", apart := false, narrowed := true }
def BitsTellsUptoSaid : Prop := bitsTellsUptoRow.holds Try.pinned (OpenSpec.upto bitsTellsSpec)

/-- 'catafalquelaw10.SemPlays', WHERE WHAT IT READS IS OF BULK AT MOST 1048576: true; the input reads as it did. -/
def semPlaysUptoRow : OpenClaim := { program := "ytblmhjfjkabocaa", sum := "3097f78c322d8fb94556de15a4d8c8424d4c68bb6ebe67aad31b2a920f012a89", func := "catafalque/catafalquelaw10.SemPlays", spec := "semPlays", unfollowed := true, recurses := true, apart := false, narrowed := true }
def SemPlaysUptoSaid : Prop := semPlaysUptoRow.holds Try.pinned (OpenSpec.upto semPlaysSpec)

/-- 'catafalquelaw10.SemFull', WHERE WHAT IT READS IS OF BULK AT MOST 1048576: true; the input reads as it did. -/
def semFullUptoRow : OpenClaim := { program := "ytblmhjfjkabocaa", sum := "3097f78c322d8fb94556de15a4d8c8424d4c68bb6ebe67aad31b2a920f012a89", func := "catafalque/catafalquelaw10.SemFull", spec := "semFull", unfollowed := true, recurses := true, apart := false, narrowed := true }
def SemFullUptoSaid : Prop := semFullUptoRow.holds Try.pinned (OpenSpec.upto semFullSpec)

end Rows
end Go.Proofs.Ytblmhjfjkabocaa
