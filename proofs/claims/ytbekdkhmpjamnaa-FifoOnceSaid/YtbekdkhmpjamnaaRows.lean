/-
  No cell of these rows narrows 'for every input' (looked for: loops, veiled, ifaces, maps, wideKeys, modest, calm, conditions, laid).
  DERIVED. THE GIVEN ROWS OF THIS SEAT. 6 by the template 'for every input the law returns true; each argument reads behind the call as it read before'; 0 by the template 'total and deterministic' (their statements: YtbekdkhmpjamnaaTotals.lean).
  GIVEN WITH THE SEED: the statements are not yours to turn. If you find one false, say at which input.
  Laid BY PROGRAM, IN A SANDBOX (cutbox-rows.mjs): the forced cells as the released guide's own fill.sh prints them over the translation b4940530560ff79f… (all of the seat's roots in one cut). By AI agents, Wed Nov 11 2026. No macro, syntax, notation, axiom, sorry.
-/
import Derived.Test.YtbekdkhmpjamnaaChecked
import GoSem.Claim
import GoSem.ClaimJoined
import GoSem.ClaimMapViews
import Derived.JoinedTies
import Derived.KernelRfl
namespace Go.Proofs.Ytbekdkhmpjamnaa
/- THE CELL 'sum', in the pinned program and in every row, IS THE sha256 OF THE DUMP (.gsa) THAT YtbekdkhmpjamnaaProg.lean LOADS. Nothing in Lean hashes anything: it is a label: what it is worth is what the hold of that sum in a sandbox is worth. -/
noncomputable def Try.pinned : Pinned := { name := "ytbekdkhmpjamnaa", sum := "b4940530560ff79ff0fb5e53964e798fd5dc4f1f6f0bd658c3c7a9487212bf9e", checked := Try.checked }
namespace Rows
def none {H : Type} : Left H := { results := [], args := [] }

/-- 'catafalquelaw05.FifoOnce': WHATEVER THE INPUT: true; the input reads as it did. -/
def fifoOnceSpec : ChangeSpec := { name := "fifoOnce", fn := fun _ => fun
  | [d1, d2] => { results := [.lit (.bool true)], args := [d1, d2] }
  | _ => none }
def fifoOnceRow : OpenClaim := { program := "ytbekdkhmpjamnaa", sum := "b4940530560ff79ff0fb5e53964e798fd5dc4f1f6f0bd658c3c7a9487212bf9e", func := "catafalque/catafalquelaw05.FifoOnce", spec := "fifoOnce", apart := false }
def FifoOnceSaid : Prop := fifoOnceRow.holds Try.pinned (OpenSpec.ofChange fifoOnceSpec)

/-- ITS FALSE NEIGHBOUR: 'it returns false'. Refute it at one input. -/
def fifoOnceWrong : ChangeSpec := { name := "fifoOnce", fn := fun _ => fun
  | [d1, d2] => { results := [.lit (.bool false)], args := [d1, d2] }
  | _ => none }
def FifoOnceWrongFalsely : Prop := fifoOnceRow.holds Try.pinned (OpenSpec.ofChange fifoOnceWrong)

/-- 'catafalquelaw05.FifoBack': WHATEVER THE INPUT: true; the input reads as it did. -/
def fifoBackSpec : ChangeSpec := { name := "fifoBack", fn := fun _ => fun
  | [d1, d2] => { results := [.lit (.bool true)], args := [d1, d2] }
  | _ => none }
def fifoBackRow : OpenClaim := { program := "ytbekdkhmpjamnaa", sum := "b4940530560ff79ff0fb5e53964e798fd5dc4f1f6f0bd658c3c7a9487212bf9e", func := "catafalque/catafalquelaw05.FifoBack", spec := "fifoBack", apart := false }
def FifoBackSaid : Prop := fifoBackRow.holds Try.pinned (OpenSpec.ofChange fifoBackSpec)

/-- ITS FALSE NEIGHBOUR: 'it returns false'. Refute it at one input. -/
def fifoBackWrong : ChangeSpec := { name := "fifoBack", fn := fun _ => fun
  | [d1, d2] => { results := [.lit (.bool false)], args := [d1, d2] }
  | _ => none }
def FifoBackWrongFalsely : Prop := fifoBackRow.holds Try.pinned (OpenSpec.ofChange fifoBackWrong)

/-- 'catafalquelaw05.FifoPlays': WHATEVER THE INPUT: true; the input reads as it did. -/
def fifoPlaysSpec : ChangeSpec := { name := "fifoPlays", fn := fun _ => fun
  | [d1, d2, d3] => { results := [.lit (.bool true)], args := [d1, d2, d3] }
  | _ => none }
def fifoPlaysRow : OpenClaim := { program := "ytbekdkhmpjamnaa", sum := "b4940530560ff79ff0fb5e53964e798fd5dc4f1f6f0bd658c3c7a9487212bf9e", func := "catafalque/catafalquelaw05.FifoPlays", spec := "fifoPlays", apart := false }
def FifoPlaysSaid : Prop := fifoPlaysRow.holds Try.pinned (OpenSpec.ofChange fifoPlaysSpec)

/-- ITS FALSE NEIGHBOUR: 'it returns false'. Refute it at one input. -/
def fifoPlaysWrong : ChangeSpec := { name := "fifoPlays", fn := fun _ => fun
  | [d1, d2, d3] => { results := [.lit (.bool false)], args := [d1, d2, d3] }
  | _ => none }
def FifoPlaysWrongFalsely : Prop := fifoPlaysRow.holds Try.pinned (OpenSpec.ofChange fifoPlaysWrong)

/-- 'catafalquelaw05.FifoOrder': WHATEVER THE INPUT: true; the input reads as it did. -/
def fifoOrderSpec : ChangeSpec := { name := "fifoOrder", fn := fun _ => fun
  | [d] => { results := [.lit (.bool true)], args := [d] }
  | _ => none }
def fifoOrderRow : OpenClaim := { program := "ytbekdkhmpjamnaa", sum := "b4940530560ff79ff0fb5e53964e798fd5dc4f1f6f0bd658c3c7a9487212bf9e", func := "catafalque/catafalquelaw05.FifoOrder", spec := "fifoOrder", apart := false }
def FifoOrderSaid : Prop := fifoOrderRow.holds Try.pinned (OpenSpec.ofChange fifoOrderSpec)

/-- ITS FALSE NEIGHBOUR: 'it returns false'. Refute it at one input. -/
def fifoOrderWrong : ChangeSpec := { name := "fifoOrder", fn := fun _ => fun
  | [d] => { results := [.lit (.bool false)], args := [d] }
  | _ => none }
def FifoOrderWrongFalsely : Prop := fifoOrderRow.holds Try.pinned (OpenSpec.ofChange fifoOrderWrong)

/-- 'catafalquelaw05.FifoNobody': WHATEVER THE INPUT: true; the input reads as it did. -/
def fifoNobodySpec : ChangeSpec := { name := "fifoNobody", fn := fun _ => fun
  | [d1, d2] => { results := [.lit (.bool true)], args := [d1, d2] }
  | _ => none }
def fifoNobodyRow : OpenClaim := { program := "ytbekdkhmpjamnaa", sum := "b4940530560ff79ff0fb5e53964e798fd5dc4f1f6f0bd658c3c7a9487212bf9e", func := "catafalque/catafalquelaw05.FifoNobody", spec := "fifoNobody", apart := false }
def FifoNobodySaid : Prop := fifoNobodyRow.holds Try.pinned (OpenSpec.ofChange fifoNobodySpec)

/-- ITS FALSE NEIGHBOUR: 'it returns false'. Refute it at one input. -/
def fifoNobodyWrong : ChangeSpec := { name := "fifoNobody", fn := fun _ => fun
  | [d1, d2] => { results := [.lit (.bool false)], args := [d1, d2] }
  | _ => none }
def FifoNobodyWrongFalsely : Prop := fifoNobodyRow.holds Try.pinned (OpenSpec.ofChange fifoNobodyWrong)

/-- 'catafalquelaw05.FifoParts': WHATEVER THE INPUT: true; the input reads as it did. -/
def fifoPartsSpec : ChangeSpec := { name := "fifoParts", fn := fun _ => fun
  | [d1, d2] => { results := [.lit (.bool true)], args := [d1, d2] }
  | _ => none }
def fifoPartsRow : OpenClaim := { program := "ytbekdkhmpjamnaa", sum := "b4940530560ff79ff0fb5e53964e798fd5dc4f1f6f0bd658c3c7a9487212bf9e", func := "catafalque/catafalquelaw05.FifoParts", spec := "fifoParts", apart := false }
def FifoPartsSaid : Prop := fifoPartsRow.holds Try.pinned (OpenSpec.ofChange fifoPartsSpec)

/-- ITS FALSE NEIGHBOUR: 'it returns false'. Refute it at one input. -/
def fifoPartsWrong : ChangeSpec := { name := "fifoParts", fn := fun _ => fun
  | [d1, d2] => { results := [.lit (.bool false)], args := [d1, d2] }
  | _ => none }
def FifoPartsWrongFalsely : Prop := fifoPartsRow.holds Try.pinned (OpenSpec.ofChange fifoPartsWrong)

/- THE SECOND FORM. 'bulk': how many values and letters a reading holds, each counted each time it is reached (what is shared counts as often as it is met; a slice's spare places count too). A statement '..UptoSaid' is the law's where the arguments, and the package variables that the reading takes, are together of bulk at most 1048576: NARROWER than '..Said'. Prove '..Said' where nothing that the law and all that it calls make is longer than what came in: it says more and counts as full. Else prove '..UptoSaid'. A law counts once. -/
mutual
def uptoBulk {H : Type} : DataW H → Nat
  | .lit (.string bytes) => bytes.length + 1
  | .lit _ => 1
  | .nil => 1
  | .ptr d => uptoBulk d + 1
  | .slice elems spare => uptoBulkAll elems + uptoBulkAll spare + 1
  | .agg parts => uptoBulkAll parts + 1
  | .iface _ d => uptoBulk d + 1
  | .map entries => uptoBulkEntries entries + 1
  | .held _ => 1
def uptoBulkAll {H : Type} : List (DataW H) → Nat
  | [] => 0
  | d :: r => uptoBulk d + uptoBulkAll r
def uptoBulkEntries {H : Type} : List (Lit × DataW H) → Nat
  | [] => 0
  | x :: r => uptoBulkEntry x + uptoBulkEntries r
def uptoBulkEntry {H : Type} : Lit × DataW H → Nat
  | (.string bytes, d) => bytes.length + uptoBulk d + 1
  | (_, d) => uptoBulk d + 1
 end
def uptoSmall : (H : Type) → List (DataW H) → Bool := fun _ ds => decide (uptoBulkAll ds ≤ 1048576)
def OpenSpec.upto (s : _root_.Go.ChangeSpec) : _root_.Go.OpenSpec := { _root_.Go.OpenSpec.ofChange s with cond := some uptoSmall }

/-- 'catafalquelaw05.FifoOnce', WHERE WHAT IT READS IS OF BULK AT MOST 1048576: true; the input reads as it did. -/
def fifoOnceUptoRow : OpenClaim := { program := "ytbekdkhmpjamnaa", sum := "b4940530560ff79ff0fb5e53964e798fd5dc4f1f6f0bd658c3c7a9487212bf9e", func := "catafalque/catafalquelaw05.FifoOnce", spec := "fifoOnce", apart := false, narrowed := true }
def FifoOnceUptoSaid : Prop := fifoOnceUptoRow.holds Try.pinned (OpenSpec.upto fifoOnceSpec)

/-- 'catafalquelaw05.FifoBack', WHERE WHAT IT READS IS OF BULK AT MOST 1048576: true; the input reads as it did. -/
def fifoBackUptoRow : OpenClaim := { program := "ytbekdkhmpjamnaa", sum := "b4940530560ff79ff0fb5e53964e798fd5dc4f1f6f0bd658c3c7a9487212bf9e", func := "catafalque/catafalquelaw05.FifoBack", spec := "fifoBack", apart := false, narrowed := true }
def FifoBackUptoSaid : Prop := fifoBackUptoRow.holds Try.pinned (OpenSpec.upto fifoBackSpec)

/-- 'catafalquelaw05.FifoPlays', WHERE WHAT IT READS IS OF BULK AT MOST 1048576: true; the input reads as it did. -/
def fifoPlaysUptoRow : OpenClaim := { program := "ytbekdkhmpjamnaa", sum := "b4940530560ff79ff0fb5e53964e798fd5dc4f1f6f0bd658c3c7a9487212bf9e", func := "catafalque/catafalquelaw05.FifoPlays", spec := "fifoPlays", apart := false, narrowed := true }
def FifoPlaysUptoSaid : Prop := fifoPlaysUptoRow.holds Try.pinned (OpenSpec.upto fifoPlaysSpec)

/-- 'catafalquelaw05.FifoOrder', WHERE WHAT IT READS IS OF BULK AT MOST 1048576: true; the input reads as it did. -/
def fifoOrderUptoRow : OpenClaim := { program := "ytbekdkhmpjamnaa", sum := "b4940530560ff79ff0fb5e53964e798fd5dc4f1f6f0bd658c3c7a9487212bf9e", func := "catafalque/catafalquelaw05.FifoOrder", spec := "fifoOrder", apart := false, narrowed := true }
def FifoOrderUptoSaid : Prop := fifoOrderUptoRow.holds Try.pinned (OpenSpec.upto fifoOrderSpec)

/-- 'catafalquelaw05.FifoNobody', WHERE WHAT IT READS IS OF BULK AT MOST 1048576: true; the input reads as it did. -/
def fifoNobodyUptoRow : OpenClaim := { program := "ytbekdkhmpjamnaa", sum := "b4940530560ff79ff0fb5e53964e798fd5dc4f1f6f0bd658c3c7a9487212bf9e", func := "catafalque/catafalquelaw05.FifoNobody", spec := "fifoNobody", apart := false, narrowed := true }
def FifoNobodyUptoSaid : Prop := fifoNobodyUptoRow.holds Try.pinned (OpenSpec.upto fifoNobodySpec)

/-- 'catafalquelaw05.FifoParts', WHERE WHAT IT READS IS OF BULK AT MOST 1048576: true; the input reads as it did. -/
def fifoPartsUptoRow : OpenClaim := { program := "ytbekdkhmpjamnaa", sum := "b4940530560ff79ff0fb5e53964e798fd5dc4f1f6f0bd658c3c7a9487212bf9e", func := "catafalque/catafalquelaw05.FifoParts", spec := "fifoParts", apart := false, narrowed := true }
def FifoPartsUptoSaid : Prop := fifoPartsUptoRow.holds Try.pinned (OpenSpec.upto fifoPartsSpec)

end Rows
end Go.Proofs.Ytbekdkhmpjamnaa
