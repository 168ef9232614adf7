/-
  No cell of these rows narrows 'for every input' (looked for: loops, veiled, ifaces, maps, wideKeys, modest, calm, conditions, laid).
  DERIVED. THE GIVEN ROWS OF THIS SEAT. 5 by the template 'for every input the law returns true; each argument reads behind the call as it read before'; 0 by the template 'total and deterministic' (their statements: YtodfkdnkgedgeaaTotals.lean).
  GIVEN WITH THE SEED: the statements are not yours to turn. If you find one false, say at which input.
  Laid BY PROGRAM, IN A SANDBOX (cutbox-rows.mjs): the forced cells as the released guide's own fill.sh prints them over the translation 033e4e7db41bde00… (all of the seat's roots in one cut). By AI agents, Wed Nov 11 2026. No macro, syntax, notation, axiom, sorry.
-/
import Derived.Test.YtodfkdnkgedgeaaChecked
import GoSem.Claim
import GoSem.ClaimJoined
import GoSem.ClaimMapViews
import Derived.JoinedTies
import Derived.KernelRfl
namespace Go.Proofs.Ytodfkdnkgedgeaa
/- THE CELL 'sum', in the pinned program and in every row, IS THE sha256 OF THE DUMP (.gsa) THAT YtodfkdnkgedgeaaProg.lean LOADS. Nothing in Lean hashes anything: it is a label: what it is worth is what the hold of that sum in a sandbox is worth. -/
noncomputable def Try.pinned : Pinned := { name := "ytodfkdnkgedgeaa", sum := "033e4e7db41bde00afac47110bcf333df48dec92f7add637371ed0da472d5639", checked := Try.checked }
namespace Rows
def none {H : Type} : Left H := { results := [], args := [] }

/-- 'catafalquelaw21.ExecDoes': WHATEVER THE INPUT: true; the input reads as it did. -/
def execDoesSpec : ChangeSpec := { name := "execDoes", fn := fun _ => fun
  | [d1, d2, d3, d4] => { results := [.lit (.bool true)], args := [d1, d2, d3, d4] }
  | _ => none }
def execDoesRow : OpenClaim := { program := "ytodfkdnkgedgeaa", sum := "033e4e7db41bde00afac47110bcf333df48dec92f7add637371ed0da472d5639", func := "catafalque/catafalquelaw21.ExecDoes", spec := "execDoes", unfollowed := true, recurses := true, apart := false }
def ExecDoesSaid : Prop := execDoesRow.holds Try.pinned (OpenSpec.ofChange execDoesSpec)

/-- ITS FALSE NEIGHBOUR: 'it returns false'. Refute it at one input. -/
def execDoesWrong : ChangeSpec := { name := "execDoes", fn := fun _ => fun
  | [d1, d2, d3, d4] => { results := [.lit (.bool false)], args := [d1, d2, d3, d4] }
  | _ => none }
def ExecDoesWrongFalsely : Prop := execDoesRow.holds Try.pinned (OpenSpec.ofChange execDoesWrong)

/-- 'catafalquelaw21.ExecNew': WHATEVER THE INPUT: true; the input reads as it did. -/
def execNewSpec : ChangeSpec := { name := "execNew", fn := fun _ => fun
  | [d1, d2] => { results := [.lit (.bool true)], args := [d1, d2] }
  | _ => none }
def execNewRow : OpenClaim := { program := "ytodfkdnkgedgeaa", sum := "033e4e7db41bde00afac47110bcf333df48dec92f7add637371ed0da472d5639", func := "catafalque/catafalquelaw21.ExecNew", spec := "execNew", unfollowed := true, recurses := true, apart := false }
def ExecNewSaid : Prop := execNewRow.holds Try.pinned (OpenSpec.ofChange execNewSpec)

/-- ITS FALSE NEIGHBOUR: 'it returns false'. Refute it at one input. -/
def execNewWrong : ChangeSpec := { name := "execNew", fn := fun _ => fun
  | [d1, d2] => { results := [.lit (.bool false)], args := [d1, d2] }
  | _ => none }
def ExecNewWrongFalsely : Prop := execNewRow.holds Try.pinned (OpenSpec.ofChange execNewWrong)

/-- 'catafalquelaw21.ExecWaits': WHATEVER THE INPUT: true; the input reads as it did. -/
def execWaitsSpec : ChangeSpec := { name := "execWaits", fn := fun _ => fun
  | [d1, d2, d3, d4] => { results := [.lit (.bool true)], args := [d1, d2, d3, d4] }
  | _ => none }
def execWaitsRow : OpenClaim := { program := "ytodfkdnkgedgeaa", sum := "033e4e7db41bde00afac47110bcf333df48dec92f7add637371ed0da472d5639", func := "catafalque/catafalquelaw21.ExecWaits", spec := "execWaits", unfollowed := true, recurses := true, apart := false }
def ExecWaitsSaid : Prop := execWaitsRow.holds Try.pinned (OpenSpec.ofChange execWaitsSpec)

/-- ITS FALSE NEIGHBOUR: 'it returns false'. Refute it at one input. -/
def execWaitsWrong : ChangeSpec := { name := "execWaits", fn := fun _ => fun
  | [d1, d2, d3, d4] => { results := [.lit (.bool false)], args := [d1, d2, d3, d4] }
  | _ => none }
def ExecWaitsWrongFalsely : Prop := execWaitsRow.holds Try.pinned (OpenSpec.ofChange execWaitsWrong)

/-- 'catafalquelaw21.ExecSteps': WHATEVER THE INPUT: true; the input reads as it did. -/
def execStepsSpec : ChangeSpec := { name := "execSteps", fn := fun _ => fun
  | [d1, d2, d3, d4] => { results := [.lit (.bool true)], args := [d1, d2, d3, d4] }
  | _ => none }
def execStepsRow : OpenClaim := { program := "ytodfkdnkgedgeaa", sum := "033e4e7db41bde00afac47110bcf333df48dec92f7add637371ed0da472d5639", func := "catafalque/catafalquelaw21.ExecSteps", spec := "execSteps", unfollowed := true, recurses := true, apart := false }
def ExecStepsSaid : Prop := execStepsRow.holds Try.pinned (OpenSpec.ofChange execStepsSpec)

/-- ITS FALSE NEIGHBOUR: 'it returns false'. Refute it at one input. -/
def execStepsWrong : ChangeSpec := { name := "execSteps", fn := fun _ => fun
  | [d1, d2, d3, d4] => { results := [.lit (.bool false)], args := [d1, d2, d3, d4] }
  | _ => none }
def ExecStepsWrongFalsely : Prop := execStepsRow.holds Try.pinned (OpenSpec.ofChange execStepsWrong)

/-- 'catafalquelaw21.ExecWakes': WHATEVER THE INPUT: true; the input reads as it did. -/
def execWakesSpec : ChangeSpec := { name := "execWakes", fn := fun _ => fun
  | [d1, d2, d3, d4] => { results := [.lit (.bool true)], args := [d1, d2, d3, d4] }
  | _ => none }
def execWakesRow : OpenClaim := { program := "ytodfkdnkgedgeaa", sum := "033e4e7db41bde00afac47110bcf333df48dec92f7add637371ed0da472d5639", func := "catafalque/catafalquelaw21.ExecWakes", spec := "execWakes", unfollowed := true, recurses := true, apart := false }
def ExecWakesSaid : Prop := execWakesRow.holds Try.pinned (OpenSpec.ofChange execWakesSpec)

/-- ITS FALSE NEIGHBOUR: 'it returns false'. Refute it at one input. -/
def execWakesWrong : ChangeSpec := { name := "execWakes", fn := fun _ => fun
  | [d1, d2, d3, d4] => { results := [.lit (.bool false)], args := [d1, d2, d3, d4] }
  | _ => none }
def ExecWakesWrongFalsely : Prop := execWakesRow.holds Try.pinned (OpenSpec.ofChange execWakesWrong)

/- THE SECOND FORM. 'bulk': how many values and letters a reading holds, each counted each time it is reached (what is shared counts as often as it is met; a slice's spare places count too). A statement '..UptoSaid' is the law's where the arguments, and the package variables that the reading takes, are together of bulk at most 1048576: NARROWER than '..Said'. Prove '..Said' where nothing that the law and all that it calls make is longer than what came in: it says more and counts as full. Else prove '..UptoSaid'. A law counts once. -/
mutual
def uptoBulk {H : Type} : DataW H → Nat
  | .lit (.string bytes) => bytes.length + 1
  | .lit _ => 1
  | .nil => 1
  | .ptr d => uptoBulk d + 1
  | .slice elems spare => uptoBulkAll elems + uptoBulkAll spare + 1
  | .agg parts => uptoBulkAll parts + 1
  | .iface _ d => uptoBulk d + 1
  | .map entries => uptoBulkEntries entries + 1
  | .held _ => 1
def uptoBulkAll {H : Type} : List (DataW H) → Nat
  | [] => 0
  | d :: r => uptoBulk d + uptoBulkAll r
def uptoBulkEntries {H : Type} : List (Lit × DataW H) → Nat
  | [] => 0
  | x :: r => uptoBulkEntry x + uptoBulkEntries r
def uptoBulkEntry {H : Type} : Lit × DataW H → Nat
  | (.string bytes, d) => bytes.length + uptoBulk d + 1
  | (_, d) => uptoBulk d + 1
 end
def uptoSmall : (H : Type) → List (DataW H) → Bool := fun _ ds => decide (uptoBulkAll ds ≤ 1048576)
def OpenSpec.upto (s : _root_.Go.ChangeSpec) : _root_.Go.OpenSpec := { _root_.Go.OpenSpec.ofChange s with cond := some uptoSmall }

/-- 'catafalquelaw21.ExecDoes', WHERE WHAT IT READS IS OF BULK AT MOST 1048576: true; the input reads as it did. -/
def execDoesUptoRow : OpenClaim := { program := "ytodfkdnkgedgeaa", sum := "033e4e7db41bde00afac47110bcf333df48dec92f7add637371ed0da472d5639", func := "catafalque/catafalquelaw21.ExecDoes", spec := "execDoes", unfollowed := true, recurses := true, apart := false, narrowed := true }
def ExecDoesUptoSaid : Prop := execDoesUptoRow.holds Try.pinned (OpenSpec.upto execDoesSpec)

/-- 'catafalquelaw21.ExecNew', WHERE WHAT IT READS IS OF BULK AT MOST 1048576: true; the input reads as it did. -/
def execNewUptoRow : OpenClaim := { program := "ytodfkdnkgedgeaa", sum := "033e4e7db41bde00afac47110bcf333df48dec92f7add637371ed0da472d5639", func := "catafalque/catafalquelaw21.ExecNew", spec := "execNew", unfollowed := true, recurses := true, apart := false, narrowed := true }
def ExecNewUptoSaid : Prop := execNewUptoRow.holds Try.pinned (OpenSpec.upto execNewSpec)

/-- 'catafalquelaw21.ExecWaits', WHERE WHAT IT READS IS OF BULK AT MOST 1048576: true; the input reads as it did. -/
def execWaitsUptoRow : OpenClaim := { program := "ytodfkdnkgedgeaa", sum := "033e4e7db41bde00afac47110bcf333df48dec92f7add637371ed0da472d5639", func := "catafalque/catafalquelaw21.ExecWaits", spec := "execWaits", unfollowed := true, recurses := true, apart := false, narrowed := true }
def ExecWaitsUptoSaid : Prop := execWaitsUptoRow.holds Try.pinned (OpenSpec.upto execWaitsSpec)

/-- 'catafalquelaw21.ExecSteps', WHERE WHAT IT READS IS OF BULK AT MOST 1048576: true; the input reads as it did. -/
def execStepsUptoRow : OpenClaim := { program := "ytodfkdnkgedgeaa", sum := "033e4e7db41bde00afac47110bcf333df48dec92f7add637371ed0da472d5639", func := "catafalque/catafalquelaw21.ExecSteps", spec := "execSteps", unfollowed := true, recurses := true, apart := false, narrowed := true }
def ExecStepsUptoSaid : Prop := execStepsUptoRow.holds Try.pinned (OpenSpec.upto execStepsSpec)

/-- 'catafalquelaw21.ExecWakes', WHERE WHAT IT READS IS OF BULK AT MOST 1048576: true; the input reads as it did. -/
def execWakesUptoRow : OpenClaim := { program := "ytodfkdnkgedgeaa", sum := "033e4e7db41bde00afac47110bcf333df48dec92f7add637371ed0da472d5639", func := "catafalque/catafalquelaw21.ExecWakes", spec := "execWakes", unfollowed := true, recurses := true, apart := false, narrowed := true }
def ExecWakesUptoSaid : Prop := execWakesUptoRow.holds Try.pinned (OpenSpec.upto execWakesSpec)

end Rows
end Go.Proofs.Ytodfkdnkgedgeaa
