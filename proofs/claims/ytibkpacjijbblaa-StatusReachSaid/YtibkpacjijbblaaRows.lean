/-
  No cell of these rows narrows 'for every input' (looked for: loops, veiled, ifaces, maps, wideKeys, modest, calm, conditions, laid).
  DERIVED. THE GIVEN ROWS OF THIS SEAT. 11 by the template 'for every input the law returns true; each argument reads behind the call as it read before'; 0 by the template 'total and deterministic' (their statements: YtibkpacjijbblaaTotals.lean).
  GIVEN WITH THE SEED: the statements are not yours to turn. If you find one false, say at which input.
  Laid BY PROGRAM, IN A SANDBOX (cutbox-rows.mjs): the forced cells as the released guide's own fill.sh prints them over the translation d9e06de1be849248… (all of the seat's roots in one cut). By AI agents, Wed Nov 11 2026. No macro, syntax, notation, axiom, sorry.
-/
import Derived.Test.YtibkpacjijbblaaChecked
import GoSem.Claim
import GoSem.ClaimJoined
import GoSem.ClaimMapViews
import Derived.JoinedTies
import Derived.KernelRfl
namespace Go.Proofs.Ytibkpacjijbblaa
/- THE CELL 'sum', in the pinned program and in every row, IS THE sha256 OF THE DUMP (.gsa) THAT YtibkpacjijbblaaProg.lean LOADS. Nothing in Lean hashes anything: it is a label: what it is worth is what the hold of that sum in a sandbox is worth. -/
noncomputable def Try.pinned : Pinned := { name := "ytibkpacjijbblaa", sum := "d9e06de1be8492489987f4d540f20ee3ef907059486ba50ce56e13cdbbb588c2", checked := Try.checked }
namespace Rows
def none {H : Type} : Left H := { results := [], args := [] }

/-- 'catafalquelaw11.BoxWakes': WHATEVER THE INPUT: true; the input reads as it did. -/
def boxWakesSpec : ChangeSpec := { name := "boxWakes", fn := fun _ => fun
  | [d1, d2] => { results := [.lit (.bool true)], args := [d1, d2] }
  | _ => none }
def boxWakesRow : OpenClaim := { program := "ytibkpacjijbblaa", sum := "d9e06de1be8492489987f4d540f20ee3ef907059486ba50ce56e13cdbbb588c2", func := "catafalque/catafalquelaw11.BoxWakes", spec := "boxWakes", apart := false }
def BoxWakesSaid : Prop := boxWakesRow.holds Try.pinned (OpenSpec.ofChange boxWakesSpec)

/-- ITS FALSE NEIGHBOUR: 'it returns false'. Refute it at one input. -/
def boxWakesWrong : ChangeSpec := { name := "boxWakes", fn := fun _ => fun
  | [d1, d2] => { results := [.lit (.bool false)], args := [d1, d2] }
  | _ => none }
def BoxWakesWrongFalsely : Prop := boxWakesRow.holds Try.pinned (OpenSpec.ofChange boxWakesWrong)

/-- 'catafalquelaw11.BoxBack': WHATEVER THE INPUT: true; the input reads as it did. -/
def boxBackSpec : ChangeSpec := { name := "boxBack", fn := fun _ => fun
  | [d1, d2] => { results := [.lit (.bool true)], args := [d1, d2] }
  | _ => none }
def boxBackRow : OpenClaim := { program := "ytibkpacjijbblaa", sum := "d9e06de1be8492489987f4d540f20ee3ef907059486ba50ce56e13cdbbb588c2", func := "catafalque/catafalquelaw11.BoxBack", spec := "boxBack", apart := false }
def BoxBackSaid : Prop := boxBackRow.holds Try.pinned (OpenSpec.ofChange boxBackSpec)

/-- ITS FALSE NEIGHBOUR: 'it returns false'. Refute it at one input. -/
def boxBackWrong : ChangeSpec := { name := "boxBack", fn := fun _ => fun
  | [d1, d2] => { results := [.lit (.bool false)], args := [d1, d2] }
  | _ => none }
def BoxBackWrongFalsely : Prop := boxBackRow.holds Try.pinned (OpenSpec.ofChange boxBackWrong)

/-- 'catafalquelaw11.BoxRoomless': WHATEVER THE INPUT: true; the input reads as it did. -/
def boxRoomlessSpec : ChangeSpec := { name := "boxRoomless", fn := fun _ => fun
  | [d1, d2] => { results := [.lit (.bool true)], args := [d1, d2] }
  | _ => none }
def boxRoomlessRow : OpenClaim := { program := "ytibkpacjijbblaa", sum := "d9e06de1be8492489987f4d540f20ee3ef907059486ba50ce56e13cdbbb588c2", func := "catafalque/catafalquelaw11.BoxRoomless", spec := "boxRoomless", apart := false }
def BoxRoomlessSaid : Prop := boxRoomlessRow.holds Try.pinned (OpenSpec.ofChange boxRoomlessSpec)

/-- ITS FALSE NEIGHBOUR: 'it returns false'. Refute it at one input. -/
def boxRoomlessWrong : ChangeSpec := { name := "boxRoomless", fn := fun _ => fun
  | [d1, d2] => { results := [.lit (.bool false)], args := [d1, d2] }
  | _ => none }
def BoxRoomlessWrongFalsely : Prop := boxRoomlessRow.holds Try.pinned (OpenSpec.ofChange boxRoomlessWrong)

/-- 'catafalquelaw09.StatusReach': WHATEVER THE INPUT: true; the input reads as it did. -/
def statusReachSpec : ChangeSpec := { name := "statusReach", fn := fun _ => fun
  | [d] => { results := [.lit (.bool true)], args := [d] }
  | _ => none }
def statusReachRow : OpenClaim := { program := "ytibkpacjijbblaa", sum := "d9e06de1be8492489987f4d540f20ee3ef907059486ba50ce56e13cdbbb588c2", func := "catafalque/catafalquelaw09.StatusReach", spec := "statusReach", apart := false }
def StatusReachSaid : Prop := statusReachRow.holds Try.pinned (OpenSpec.ofChange statusReachSpec)

/-- ITS FALSE NEIGHBOUR: 'it returns false'. Refute it at one input. -/
def statusReachWrong : ChangeSpec := { name := "statusReach", fn := fun _ => fun
  | [d] => { results := [.lit (.bool false)], args := [d] }
  | _ => none }
def StatusReachWrongFalsely : Prop := statusReachRow.holds Try.pinned (OpenSpec.ofChange statusReachWrong)

/-- 'catafalquelaw09.StatusWalks': WHATEVER THE INPUT: true; the input reads as it did. -/
def statusWalksSpec : ChangeSpec := { name := "statusWalks", fn := fun _ => fun
  | [d1, d2] => { results := [.lit (.bool true)], args := [d1, d2] }
  | _ => none }
def statusWalksRow : OpenClaim := { program := "ytibkpacjijbblaa", sum := "d9e06de1be8492489987f4d540f20ee3ef907059486ba50ce56e13cdbbb588c2", func := "catafalque/catafalquelaw09.StatusWalks", spec := "statusWalks", apart := false }
def StatusWalksSaid : Prop := statusWalksRow.holds Try.pinned (OpenSpec.ofChange statusWalksSpec)

/-- ITS FALSE NEIGHBOUR: 'it returns false'. Refute it at one input. -/
def statusWalksWrong : ChangeSpec := { name := "statusWalks", fn := fun _ => fun
  | [d1, d2] => { results := [.lit (.bool false)], args := [d1, d2] }
  | _ => none }
def StatusWalksWrongFalsely : Prop := statusWalksRow.holds Try.pinned (OpenSpec.ofChange statusWalksWrong)

/-- 'catafalquelaw09.StatusTurned': WHATEVER THE INPUT: true; the input reads as it did. -/
def statusTurnedSpec : ChangeSpec := { name := "statusTurned", fn := fun _ => fun
  | [d1, d2, d3] => { results := [.lit (.bool true)], args := [d1, d2, d3] }
  | _ => none }
def statusTurnedRow : OpenClaim := { program := "ytibkpacjijbblaa", sum := "d9e06de1be8492489987f4d540f20ee3ef907059486ba50ce56e13cdbbb588c2", func := "catafalque/catafalquelaw09.StatusTurned", spec := "statusTurned", apart := false }
def StatusTurnedSaid : Prop := statusTurnedRow.holds Try.pinned (OpenSpec.ofChange statusTurnedSpec)

/-- ITS FALSE NEIGHBOUR: 'it returns false'. Refute it at one input. -/
def statusTurnedWrong : ChangeSpec := { name := "statusTurned", fn := fun _ => fun
  | [d1, d2, d3] => { results := [.lit (.bool false)], args := [d1, d2, d3] }
  | _ => none }
def StatusTurnedWrongFalsely : Prop := statusTurnedRow.holds Try.pinned (OpenSpec.ofChange statusTurnedWrong)

/-- 'catafalquelaw09.StatusNames': WHATEVER THE INPUT: true; the input reads as it did. -/
def statusNamesSpec : ChangeSpec := { name := "statusNames", fn := fun _ => fun
  | [d1, d2] => { results := [.lit (.bool true)], args := [d1, d2] }
  | _ => none }
def statusNamesRow : OpenClaim := { program := "ytibkpacjijbblaa", sum := "d9e06de1be8492489987f4d540f20ee3ef907059486ba50ce56e13cdbbb588c2", func := "catafalque/catafalquelaw09.StatusNames", spec := "statusNames", apart := false }
def StatusNamesSaid : Prop := statusNamesRow.holds Try.pinned (OpenSpec.ofChange statusNamesSpec)

/-- ITS FALSE NEIGHBOUR: 'it returns false'. Refute it at one input. -/
def statusNamesWrong : ChangeSpec := { name := "statusNames", fn := fun _ => fun
  | [d1, d2] => { results := [.lit (.bool false)], args := [d1, d2] }
  | _ => none }
def StatusNamesWrongFalsely : Prop := statusNamesRow.holds Try.pinned (OpenSpec.ofChange statusNamesWrong)

/-- 'catafalquelaw09.StatusTells': WHATEVER THE INPUT: true; the input reads as it did. -/
def statusTellsSpec : ChangeSpec := { name := "statusTells", fn := fun _ => fun
  | [d1, d2, d3] => { results := [.lit (.bool true)], args := [d1, d2, d3] }
  | _ => none }
def statusTellsRow : OpenClaim := { program := "ytibkpacjijbblaa", sum := "d9e06de1be8492489987f4d540f20ee3ef907059486ba50ce56e13cdbbb588c2", func := "catafalque/catafalquelaw09.StatusTells", spec := "statusTells", apart := false }
def StatusTellsSaid : Prop := statusTellsRow.holds Try.pinned (OpenSpec.ofChange statusTellsSpec)

/-- ITS FALSE NEIGHBOUR: 'it returns false'. Refute it at one input. -/
def statusTellsWrong : ChangeSpec := { name := "statusTells", fn := fun _ => fun
  | [d1, d2, d3] => { results := [.lit (.bool false)], args := [d1, d2, d3] }
  | _ => none }
def StatusTellsWrongFalsely : Prop := statusTellsRow.holds Try.pinned (OpenSpec.ofChange statusTellsWrong)

/-- 'catafalquelaw09.StatusAble': WHATEVER THE INPUT: true; the input reads as it did. -/
def statusAbleSpec : ChangeSpec := { name := "statusAble", fn := fun _ => fun
  | [d1, d2] => { results := [.lit (.bool true)], args := [d1, d2] }
  | _ => none }
def statusAbleRow : OpenClaim := { program := "ytibkpacjijbblaa", sum := "d9e06de1be8492489987f4d540f20ee3ef907059486ba50ce56e13cdbbb588c2", func := "catafalque/catafalquelaw09.StatusAble", spec := "statusAble", apart := false }
def StatusAbleSaid : Prop := statusAbleRow.holds Try.pinned (OpenSpec.ofChange statusAbleSpec)

/-- ITS FALSE NEIGHBOUR: 'it returns false'. Refute it at one input. -/
def statusAbleWrong : ChangeSpec := { name := "statusAble", fn := fun _ => fun
  | [d1, d2] => { results := [.lit (.bool false)], args := [d1, d2] }
  | _ => none }
def StatusAbleWrongFalsely : Prop := statusAbleRow.holds Try.pinned (OpenSpec.ofChange statusAbleWrong)

/-- 'catafalquelaw11.BoxTells': WHATEVER THE INPUT: true; the input reads as it did. -/
def boxTellsSpec : ChangeSpec := { name := "boxTells", fn := fun _ => fun
  | [d1, d2, d3] => { results := [.lit (.bool true)], args := [d1, d2, d3] }
  | _ => none }
def boxTellsRow : OpenClaim := { program := "ytibkpacjijbblaa", sum := "d9e06de1be8492489987f4d540f20ee3ef907059486ba50ce56e13cdbbb588c2", func := "catafalque/catafalquelaw11.BoxTells", spec := "boxTells", apart := false }
def BoxTellsSaid : Prop := boxTellsRow.holds Try.pinned (OpenSpec.ofChange boxTellsSpec)

/-- ITS FALSE NEIGHBOUR: 'it returns false'. Refute it at one input. -/
def boxTellsWrong : ChangeSpec := { name := "boxTells", fn := fun _ => fun
  | [d1, d2, d3] => { results := [.lit (.bool false)], args := [d1, d2, d3] }
  | _ => none }
def BoxTellsWrongFalsely : Prop := boxTellsRow.holds Try.pinned (OpenSpec.ofChange boxTellsWrong)

/-- 'catafalquelaw11.BoxPlays': WHATEVER THE INPUT: true; the input reads as it did. -/
def boxPlaysSpec : ChangeSpec := { name := "boxPlays", fn := fun _ => fun
  | [d1, d2] => { results := [.lit (.bool true)], args := [d1, d2] }
  | _ => none }
def boxPlaysRow : OpenClaim := { program := "ytibkpacjijbblaa", sum := "d9e06de1be8492489987f4d540f20ee3ef907059486ba50ce56e13cdbbb588c2", func := "catafalque/catafalquelaw11.BoxPlays", spec := "boxPlays", apart := false }
def BoxPlaysSaid : Prop := boxPlaysRow.holds Try.pinned (OpenSpec.ofChange boxPlaysSpec)

/-- ITS FALSE NEIGHBOUR: 'it returns false'. Refute it at one input. -/
def boxPlaysWrong : ChangeSpec := { name := "boxPlays", fn := fun _ => fun
  | [d1, d2] => { results := [.lit (.bool false)], args := [d1, d2] }
  | _ => none }
def BoxPlaysWrongFalsely : Prop := boxPlaysRow.holds Try.pinned (OpenSpec.ofChange boxPlaysWrong)

/- THE SECOND FORM. 'bulk': how many values and letters a reading holds, each counted each time it is reached (what is shared counts as often as it is met; a slice's spare places count too). A statement '..UptoSaid' is the law's where the arguments, and the package variables that the reading takes, are together of bulk at most 1048576: NARROWER than '..Said'. Prove '..Said' where nothing that the law and all that it calls make is longer than what came in: it says more and counts as full. Else prove '..UptoSaid'. A law counts once. -/
mutual
def uptoBulk {H : Type} : DataW H → Nat
  | .lit (.string bytes) => bytes.length + 1
  | .lit _ => 1
  | .nil => 1
  | .ptr d => uptoBulk d + 1
  | .slice elems spare => uptoBulkAll elems + uptoBulkAll spare + 1
  | .agg parts => uptoBulkAll parts + 1
  | .iface _ d => uptoBulk d + 1
  | .map entries => uptoBulkEntries entries + 1
  | .held _ => 1
def uptoBulkAll {H : Type} : List (DataW H) → Nat
  | [] => 0
  | d :: r => uptoBulk d + uptoBulkAll r
def uptoBulkEntries {H : Type} : List (Lit × DataW H) → Nat
  | [] => 0
  | x :: r => uptoBulkEntry x + uptoBulkEntries r
def uptoBulkEntry {H : Type} : Lit × DataW H → Nat
  | (.string bytes, d) => bytes.length + uptoBulk d + 1
  | (_, d) => uptoBulk d + 1
 end
def uptoSmall : (H : Type) → List (DataW H) → Bool := fun _ ds => decide (uptoBulkAll ds ≤ 1048576)
def OpenSpec.upto (s : _root_.Go.ChangeSpec) : _root_.Go.OpenSpec := { _root_.Go.OpenSpec.ofChange s with cond := some uptoSmall }

/-- 'catafalquelaw11.BoxWakes', WHERE WHAT IT READS IS OF BULK AT MOST 1048576: true; the input reads as it did. -/
def boxWakesUptoRow : OpenClaim := { program := "ytibkpacjijbblaa", sum := "d9e06de1be8492489987f4d540f20ee3ef907059486ba50ce56e13cdbbb588c2", func := "catafalque/catafalquelaw11.BoxWakes", spec := "boxWakes", apart := false, narrowed := true }
def BoxWakesUptoSaid : Prop := boxWakesUptoRow.holds Try.pinned (OpenSpec.upto boxWakesSpec)

/-- 'catafalquelaw11.BoxBack', WHERE WHAT IT READS IS OF BULK AT MOST 1048576: true; the input reads as it did. -/
def boxBackUptoRow : OpenClaim := { program := "ytibkpacjijbblaa", sum := "d9e06de1be8492489987f4d540f20ee3ef907059486ba50ce56e13cdbbb588c2", func := "catafalque/catafalquelaw11.BoxBack", spec := "boxBack", apart := false, narrowed := true }
def BoxBackUptoSaid : Prop := boxBackUptoRow.holds Try.pinned (OpenSpec.upto boxBackSpec)

/-- 'catafalquelaw11.BoxRoomless', WHERE WHAT IT READS IS OF BULK AT MOST 1048576: true; the input reads as it did. -/
def boxRoomlessUptoRow : OpenClaim := { program := "ytibkpacjijbblaa", sum := "d9e06de1be8492489987f4d540f20ee3ef907059486ba50ce56e13cdbbb588c2", func := "catafalque/catafalquelaw11.BoxRoomless", spec := "boxRoomless", apart := false, narrowed := true }
def BoxRoomlessUptoSaid : Prop := boxRoomlessUptoRow.holds Try.pinned (OpenSpec.upto boxRoomlessSpec)

/-- 'catafalquelaw09.StatusReach', WHERE WHAT IT READS IS OF BULK AT MOST 1048576: true; the input reads as it did. -/
def statusReachUptoRow : OpenClaim := { program := "ytibkpacjijbblaa", sum := "d9e06de1be8492489987f4d540f20ee3ef907059486ba50ce56e13cdbbb588c2", func := "catafalque/catafalquelaw09.StatusReach", spec := "statusReach", apart := false, narrowed := true }
def StatusReachUptoSaid : Prop := statusReachUptoRow.holds Try.pinned (OpenSpec.upto statusReachSpec)

/-- 'catafalquelaw09.StatusWalks', WHERE WHAT IT READS IS OF BULK AT MOST 1048576: true; the input reads as it did. -/
def statusWalksUptoRow : OpenClaim := { program := "ytibkpacjijbblaa", sum := "d9e06de1be8492489987f4d540f20ee3ef907059486ba50ce56e13cdbbb588c2", func := "catafalque/catafalquelaw09.StatusWalks", spec := "statusWalks", apart := false, narrowed := true }
def StatusWalksUptoSaid : Prop := statusWalksUptoRow.holds Try.pinned (OpenSpec.upto statusWalksSpec)

/-- 'catafalquelaw09.StatusTurned', WHERE WHAT IT READS IS OF BULK AT MOST 1048576: true; the input reads as it did. -/
def statusTurnedUptoRow : OpenClaim := { program := "ytibkpacjijbblaa", sum := "d9e06de1be8492489987f4d540f20ee3ef907059486ba50ce56e13cdbbb588c2", func := "catafalque/catafalquelaw09.StatusTurned", spec := "statusTurned", apart := false, narrowed := true }
def StatusTurnedUptoSaid : Prop := statusTurnedUptoRow.holds Try.pinned (OpenSpec.upto statusTurnedSpec)

/-- 'catafalquelaw09.StatusNames', WHERE WHAT IT READS IS OF BULK AT MOST 1048576: true; the input reads as it did. -/
def statusNamesUptoRow : OpenClaim := { program := "ytibkpacjijbblaa", sum := "d9e06de1be8492489987f4d540f20ee3ef907059486ba50ce56e13cdbbb588c2", func := "catafalque/catafalquelaw09.StatusNames", spec := "statusNames", apart := false, narrowed := true }
def StatusNamesUptoSaid : Prop := statusNamesUptoRow.holds Try.pinned (OpenSpec.upto statusNamesSpec)

/-- 'catafalquelaw09.StatusTells', WHERE WHAT IT READS IS OF BULK AT MOST 1048576: true; the input reads as it did. -/
def statusTellsUptoRow : OpenClaim := { program := "ytibkpacjijbblaa", sum := "d9e06de1be8492489987f4d540f20ee3ef907059486ba50ce56e13cdbbb588c2", func := "catafalque/catafalquelaw09.StatusTells", spec := "statusTells", apart := false, narrowed := true }
def StatusTellsUptoSaid : Prop := statusTellsUptoRow.holds Try.pinned (OpenSpec.upto statusTellsSpec)

/-- 'catafalquelaw09.StatusAble', WHERE WHAT IT READS IS OF BULK AT MOST 1048576: true; the input reads as it did. -/
def statusAbleUptoRow : OpenClaim := { program := "ytibkpacjijbblaa", sum := "d9e06de1be8492489987f4d540f20ee3ef907059486ba50ce56e13cdbbb588c2", func := "catafalque/catafalquelaw09.StatusAble", spec := "statusAble", apart := false, narrowed := true }
def StatusAbleUptoSaid : Prop := statusAbleUptoRow.holds Try.pinned (OpenSpec.upto statusAbleSpec)

/-- 'catafalquelaw11.BoxTells', WHERE WHAT IT READS IS OF BULK AT MOST 1048576: true; the input reads as it did. -/
def boxTellsUptoRow : OpenClaim := { program := "ytibkpacjijbblaa", sum := "d9e06de1be8492489987f4d540f20ee3ef907059486ba50ce56e13cdbbb588c2", func := "catafalque/catafalquelaw11.BoxTells", spec := "boxTells", apart := false, narrowed := true }
def BoxTellsUptoSaid : Prop := boxTellsUptoRow.holds Try.pinned (OpenSpec.upto boxTellsSpec)

/-- 'catafalquelaw11.BoxPlays', WHERE WHAT IT READS IS OF BULK AT MOST 1048576: true; the input reads as it did. -/
def boxPlaysUptoRow : OpenClaim := { program := "ytibkpacjijbblaa", sum := "d9e06de1be8492489987f4d540f20ee3ef907059486ba50ce56e13cdbbb588c2", func := "catafalque/catafalquelaw11.BoxPlays", spec := "boxPlays", apart := false, narrowed := true }
def BoxPlaysUptoSaid : Prop := boxPlaysUptoRow.holds Try.pinned (OpenSpec.upto boxPlaysSpec)

end Rows
end Go.Proofs.Ytibkpacjijbblaa
