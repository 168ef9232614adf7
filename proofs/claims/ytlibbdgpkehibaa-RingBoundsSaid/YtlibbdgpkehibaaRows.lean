/-
  No cell of these rows narrows 'for every input' (looked for: loops, veiled, ifaces, maps, wideKeys, modest, calm, conditions, laid).
  DERIVED. THE GIVEN ROWS OF THIS SEAT. 7 by the template 'for every input the law returns true; each argument reads behind the call as it read before'; 0 by the template 'total and deterministic' (their statements: YtlibbdgpkehibaaTotals.lean).
  GIVEN WITH THE SEED: the statements are not yours to turn. If you find one false, say at which input.
  Laid BY PROGRAM, IN A SANDBOX (cutbox-rows.mjs): the forced cells as the released guide's own fill.sh prints them over the translation 7495dfa792300431… (all of the seat's roots in one cut). By AI agents, Wed Nov 11 2026. No macro, syntax, notation, axiom, sorry.
-/
import Derived.Test.YtlibbdgpkehibaaChecked
import GoSem.Claim
import GoSem.ClaimJoined
import GoSem.ClaimMapViews
import Derived.JoinedTies
import Derived.KernelRfl
namespace Go.Proofs.Ytlibbdgpkehibaa
/- THE CELL 'sum', in the pinned program and in every row, IS THE sha256 OF THE DUMP (.gsa) THAT YtlibbdgpkehibaaProg.lean LOADS. Nothing in Lean hashes anything: it is a label: what it is worth is what the hold of that sum in a sandbox is worth. -/
noncomputable def Try.pinned : Pinned := { name := "ytlibbdgpkehibaa", sum := "7495dfa792300431a909b1dad3fb7e0103ab111badae541bacd84a085f403902", checked := Try.checked }
namespace Rows
def none {H : Type} : Left H := { results := [], args := [] }

/-- 'catafalquelaw04.RingOrder': WHATEVER THE INPUT: true; the input reads as it did. -/
def ringOrderSpec : ChangeSpec := { name := "ringOrder", fn := fun _ => fun
  | [d1, d2] => { results := [.lit (.bool true)], args := [d1, d2] }
  | _ => none }
def ringOrderRow : OpenClaim := { program := "ytlibbdgpkehibaa", sum := "7495dfa792300431a909b1dad3fb7e0103ab111badae541bacd84a085f403902", func := "catafalque/catafalquelaw04.RingOrder", spec := "ringOrder", apart := false }
def RingOrderSaid : Prop := ringOrderRow.holds Try.pinned (OpenSpec.ofChange ringOrderSpec)

/-- ITS FALSE NEIGHBOUR: 'it returns false'. Refute it at one input. -/
def ringOrderWrong : ChangeSpec := { name := "ringOrder", fn := fun _ => fun
  | [d1, d2] => { results := [.lit (.bool false)], args := [d1, d2] }
  | _ => none }
def RingOrderWrongFalsely : Prop := ringOrderRow.holds Try.pinned (OpenSpec.ofChange ringOrderWrong)

/-- 'catafalquelaw04.RingNext': WHATEVER THE INPUT: true; the input reads as it did. -/
def ringNextSpec : ChangeSpec := { name := "ringNext", fn := fun _ => fun
  | [d1, d2, d3] => { results := [.lit (.bool true)], args := [d1, d2, d3] }
  | _ => none }
def ringNextRow : OpenClaim := { program := "ytlibbdgpkehibaa", sum := "7495dfa792300431a909b1dad3fb7e0103ab111badae541bacd84a085f403902", func := "catafalque/catafalquelaw04.RingNext", spec := "ringNext", apart := false }
def RingNextSaid : Prop := ringNextRow.holds Try.pinned (OpenSpec.ofChange ringNextSpec)

/-- ITS FALSE NEIGHBOUR: 'it returns false'. Refute it at one input. -/
def ringNextWrong : ChangeSpec := { name := "ringNext", fn := fun _ => fun
  | [d1, d2, d3] => { results := [.lit (.bool false)], args := [d1, d2, d3] }
  | _ => none }
def RingNextWrongFalsely : Prop := ringNextRow.holds Try.pinned (OpenSpec.ofChange ringNextWrong)

/-- 'catafalquelaw04.RingTakes': WHATEVER THE INPUT: true; the input reads as it did. -/
def ringTakesSpec : ChangeSpec := { name := "ringTakes", fn := fun _ => fun
  | [d] => { results := [.lit (.bool true)], args := [d] }
  | _ => none }
def ringTakesRow : OpenClaim := { program := "ytlibbdgpkehibaa", sum := "7495dfa792300431a909b1dad3fb7e0103ab111badae541bacd84a085f403902", func := "catafalque/catafalquelaw04.RingTakes", spec := "ringTakes", apart := false }
def RingTakesSaid : Prop := ringTakesRow.holds Try.pinned (OpenSpec.ofChange ringTakesSpec)

/-- ITS FALSE NEIGHBOUR: 'it returns false'. Refute it at one input. -/
def ringTakesWrong : ChangeSpec := { name := "ringTakes", fn := fun _ => fun
  | [d] => { results := [.lit (.bool false)], args := [d] }
  | _ => none }
def RingTakesWrongFalsely : Prop := ringTakesRow.holds Try.pinned (OpenSpec.ofChange ringTakesWrong)

/-- 'catafalquelaw04.RingLoses': WHATEVER THE INPUT: true; the input reads as it did. -/
def ringLosesSpec : ChangeSpec := { name := "ringLoses", fn := fun _ => fun
  | [d1, d2, d3] => { results := [.lit (.bool true)], args := [d1, d2, d3] }
  | _ => none }
def ringLosesRow : OpenClaim := { program := "ytlibbdgpkehibaa", sum := "7495dfa792300431a909b1dad3fb7e0103ab111badae541bacd84a085f403902", func := "catafalque/catafalquelaw04.RingLoses", spec := "ringLoses", apart := false }
def RingLosesSaid : Prop := ringLosesRow.holds Try.pinned (OpenSpec.ofChange ringLosesSpec)

/-- ITS FALSE NEIGHBOUR: 'it returns false'. Refute it at one input. -/
def ringLosesWrong : ChangeSpec := { name := "ringLoses", fn := fun _ => fun
  | [d1, d2, d3] => { results := [.lit (.bool false)], args := [d1, d2, d3] }
  | _ => none }
def RingLosesWrongFalsely : Prop := ringLosesRow.holds Try.pinned (OpenSpec.ofChange ringLosesWrong)

/-- 'catafalquelaw04.RingTwice': WHATEVER THE INPUT: true; the input reads as it did. -/
def ringTwiceSpec : ChangeSpec := { name := "ringTwice", fn := fun _ => fun
  | [d] => { results := [.lit (.bool true)], args := [d] }
  | _ => none }
def ringTwiceRow : OpenClaim := { program := "ytlibbdgpkehibaa", sum := "7495dfa792300431a909b1dad3fb7e0103ab111badae541bacd84a085f403902", func := "catafalque/catafalquelaw04.RingTwice", spec := "ringTwice", apart := false }
def RingTwiceSaid : Prop := ringTwiceRow.holds Try.pinned (OpenSpec.ofChange ringTwiceSpec)

/-- ITS FALSE NEIGHBOUR: 'it returns false'. Refute it at one input. -/
def ringTwiceWrong : ChangeSpec := { name := "ringTwice", fn := fun _ => fun
  | [d] => { results := [.lit (.bool false)], args := [d] }
  | _ => none }
def RingTwiceWrongFalsely : Prop := ringTwiceRow.holds Try.pinned (OpenSpec.ofChange ringTwiceWrong)

/-- 'catafalquelaw04.RingTells': WHATEVER THE INPUT: true; the input reads as it did. -/
def ringTellsSpec : ChangeSpec := { name := "ringTells", fn := fun _ => fun
  | [d1, d2, d3] => { results := [.lit (.bool true)], args := [d1, d2, d3] }
  | _ => none }
def ringTellsRow : OpenClaim := { program := "ytlibbdgpkehibaa", sum := "7495dfa792300431a909b1dad3fb7e0103ab111badae541bacd84a085f403902", func := "catafalque/catafalquelaw04.RingTells", spec := "ringTells", apart := false }
def RingTellsSaid : Prop := ringTellsRow.holds Try.pinned (OpenSpec.ofChange ringTellsSpec)

/-- ITS FALSE NEIGHBOUR: 'it returns false'. Refute it at one input. -/
def ringTellsWrong : ChangeSpec := { name := "ringTells", fn := fun _ => fun
  | [d1, d2, d3] => { results := [.lit (.bool false)], args := [d1, d2, d3] }
  | _ => none }
def RingTellsWrongFalsely : Prop := ringTellsRow.holds Try.pinned (OpenSpec.ofChange ringTellsWrong)

/-- 'catafalquelaw04.RingBounds': WHATEVER THE INPUT: true; the input reads as it did. -/
def ringBoundsSpec : ChangeSpec := { name := "ringBounds", fn := fun _ => fun
  | [d1, d2] => { results := [.lit (.bool true)], args := [d1, d2] }
  | _ => none }
def ringBoundsRow : OpenClaim := { program := "ytlibbdgpkehibaa", sum := "7495dfa792300431a909b1dad3fb7e0103ab111badae541bacd84a085f403902", func := "catafalque/catafalquelaw04.RingBounds", spec := "ringBounds", apart := false }
def RingBoundsSaid : Prop := ringBoundsRow.holds Try.pinned (OpenSpec.ofChange ringBoundsSpec)

/-- ITS FALSE NEIGHBOUR: 'it returns false'. Refute it at one input. -/
def ringBoundsWrong : ChangeSpec := { name := "ringBounds", fn := fun _ => fun
  | [d1, d2] => { results := [.lit (.bool false)], args := [d1, d2] }
  | _ => none }
def RingBoundsWrongFalsely : Prop := ringBoundsRow.holds Try.pinned (OpenSpec.ofChange ringBoundsWrong)

/- THE SECOND FORM. 'bulk': how many values and letters a reading holds, each counted each time it is reached (what is shared counts as often as it is met; a slice's spare places count too). A statement '..UptoSaid' is the law's where the arguments, and the package variables that the reading takes, are together of bulk at most 1048576: NARROWER than '..Said'. Prove '..Said' where nothing that the law and all that it calls make is longer than what came in: it says more and counts as full. Else prove '..UptoSaid'. A law counts once. -/
mutual
def uptoBulk {H : Type} : DataW H → Nat
  | .lit (.string bytes) => bytes.length + 1
  | .lit _ => 1
  | .nil => 1
  | .ptr d => uptoBulk d + 1
  | .slice elems spare => uptoBulkAll elems + uptoBulkAll spare + 1
  | .agg parts => uptoBulkAll parts + 1
  | .iface _ d => uptoBulk d + 1
  | .map entries => uptoBulkEntries entries + 1
  | .held _ => 1
def uptoBulkAll {H : Type} : List (DataW H) → Nat
  | [] => 0
  | d :: r => uptoBulk d + uptoBulkAll r
def uptoBulkEntries {H : Type} : List (Lit × DataW H) → Nat
  | [] => 0
  | x :: r => uptoBulkEntry x + uptoBulkEntries r
def uptoBulkEntry {H : Type} : Lit × DataW H → Nat
  | (.string bytes, d) => bytes.length + uptoBulk d + 1
  | (_, d) => uptoBulk d + 1
 end
def uptoSmall : (H : Type) → List (DataW H) → Bool := fun _ ds => decide (uptoBulkAll ds ≤ 1048576)
def OpenSpec.upto (s : _root_.Go.ChangeSpec) : _root_.Go.OpenSpec := { _root_.Go.OpenSpec.ofChange s with cond := some uptoSmall }

/-- 'catafalquelaw04.RingOrder', WHERE WHAT IT READS IS OF BULK AT MOST 1048576: true; the input reads as it did. -/
def ringOrderUptoRow : OpenClaim := { program := "ytlibbdgpkehibaa", sum := "7495dfa792300431a909b1dad3fb7e0103ab111badae541bacd84a085f403902", func := "catafalque/catafalquelaw04.RingOrder", spec := "ringOrder", apart := false, narrowed := true }
def RingOrderUptoSaid : Prop := ringOrderUptoRow.holds Try.pinned (OpenSpec.upto ringOrderSpec)

/-- 'catafalquelaw04.RingNext', WHERE WHAT IT READS IS OF BULK AT MOST 1048576: true; the input reads as it did. -/
def ringNextUptoRow : OpenClaim := { program := "ytlibbdgpkehibaa", sum := "7495dfa792300431a909b1dad3fb7e0103ab111badae541bacd84a085f403902", func := "catafalque/catafalquelaw04.RingNext", spec := "ringNext", apart := false, narrowed := true }
def RingNextUptoSaid : Prop := ringNextUptoRow.holds Try.pinned (OpenSpec.upto ringNextSpec)

/-- 'catafalquelaw04.RingTakes', WHERE WHAT IT READS IS OF BULK AT MOST 1048576: true; the input reads as it did. -/
def ringTakesUptoRow : OpenClaim := { program := "ytlibbdgpkehibaa", sum := "7495dfa792300431a909b1dad3fb7e0103ab111badae541bacd84a085f403902", func := "catafalque/catafalquelaw04.RingTakes", spec := "ringTakes", apart := false, narrowed := true }
def RingTakesUptoSaid : Prop := ringTakesUptoRow.holds Try.pinned (OpenSpec.upto ringTakesSpec)

/-- 'catafalquelaw04.RingLoses', WHERE WHAT IT READS IS OF BULK AT MOST 1048576: true; the input reads as it did. -/
def ringLosesUptoRow : OpenClaim := { program := "ytlibbdgpkehibaa", sum := "7495dfa792300431a909b1dad3fb7e0103ab111badae541bacd84a085f403902", func := "catafalque/catafalquelaw04.RingLoses", spec := "ringLoses", apart := false, narrowed := true }
def RingLosesUptoSaid : Prop := ringLosesUptoRow.holds Try.pinned (OpenSpec.upto ringLosesSpec)

/-- 'catafalquelaw04.RingTwice', WHERE WHAT IT READS IS OF BULK AT MOST 1048576: true; the input reads as it did. -/
def ringTwiceUptoRow : OpenClaim := { program := "ytlibbdgpkehibaa", sum := "7495dfa792300431a909b1dad3fb7e0103ab111badae541bacd84a085f403902", func := "catafalque/catafalquelaw04.RingTwice", spec := "ringTwice", apart := false, narrowed := true }
def RingTwiceUptoSaid : Prop := ringTwiceUptoRow.holds Try.pinned (OpenSpec.upto ringTwiceSpec)

/-- 'catafalquelaw04.RingTells', WHERE WHAT IT READS IS OF BULK AT MOST 1048576: true; the input reads as it did. -/
def ringTellsUptoRow : OpenClaim := { program := "ytlibbdgpkehibaa", sum := "7495dfa792300431a909b1dad3fb7e0103ab111badae541bacd84a085f403902", func := "catafalque/catafalquelaw04.RingTells", spec := "ringTells", apart := false, narrowed := true }
def RingTellsUptoSaid : Prop := ringTellsUptoRow.holds Try.pinned (OpenSpec.upto ringTellsSpec)

/-- 'catafalquelaw04.RingBounds', WHERE WHAT IT READS IS OF BULK AT MOST 1048576: true; the input reads as it did. -/
def ringBoundsUptoRow : OpenClaim := { program := "ytlibbdgpkehibaa", sum := "7495dfa792300431a909b1dad3fb7e0103ab111badae541bacd84a085f403902", func := "catafalque/catafalquelaw04.RingBounds", spec := "ringBounds", apart := false, narrowed := true }
def RingBoundsUptoSaid : Prop := ringBoundsUptoRow.holds Try.pinned (OpenSpec.upto ringBoundsSpec)

end Rows
end Go.Proofs.Ytlibbdgpkehibaa
