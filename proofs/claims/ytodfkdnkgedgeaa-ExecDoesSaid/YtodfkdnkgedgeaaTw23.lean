/- Walks over the program's functions, on values without memory, and what they come to. No condition. -/
import Derived.Test.YtodfkdnkgedgeaaTw22
set_option linter.unusedVariables false
set_option linter.unusedSimpArgs false
namespace Go.Proofs.YtodfkdnkgedgeaaT
open Go Go.RowKit
variable {P : Program} {st : St} {Q : Exit → St → Prop} {cx : Cx}
def posOf (i : Nat) : List Nat → Option Nat
 | [] => none
 | a :: l => if a = i then some 0 else (posOf i l).map (· + 1)
def lendF (ids : List Nat) (i : Nat) : Nat := match posOf i ids with
 | some j => j
 | none => i + ids.length
def lendG (ids : List Nat) (j : Nat) : Nat := match ids[j]? with
 | some i => i
 | none => j - ids.length
def AV.thin : AV → Bool
 | .ptr _ _ => true
 | x => x.scalar
def AV.bare : AV → Bool
 | .fn _ cs => cs.all AV.thin
 | x => x.thin
def inV (ids : List Nat) (x : AV) : AV := if x.bare = true then mp (lendF ids) x else .junk
def outV (ids : List Nat) : AV → AV
 | .ptr i o => .ptr (lendG ids i) o
 | x => if x.scalar = true then x else .junk
def bareO : HO → HO
 | .un => .un
 | .box cs => if cs.all AV.scalar = true then .box cs else .dead
 | _ => .dead
def inO (ids : List Nat) : Nat → List HO → List HO
 | _, [] => []
 | i, o :: l => (if posOf i ids = none then bareO o else .un) :: inO ids (i + 1) l
def outO (ids : List Nat) (css : List (List AV)) : Nat → List HO → List HO
 | _, [] => []
 | i, o :: l => (match posOf i ids with | some j => .box (css.getD j []) | none => bareO o) :: outO ids css (i + 1) l
def lendIn (ids : List Nat) (css : List (List AV)) (st : St) : St := ⟨st.tmps.map (inV ids), css.map .ibox ++ inO ids 0 st.heap, ids.length⟩
def lendOut (ids : List Nat) (css : List (List AV)) (s : St) : St := ⟨s.tmps.map (outV ids), outO ids css 0 (s.heap.drop ids.length), 0⟩
def lentH (st : St) : List Nat → List (List AV) → Prop
 | [], [] => True
 | i :: is, cs :: css => st.heap[i]? = some (.box cs) ∧ AV.pures cs = true ∧ lentH st is css
 | _, _ => False
end Go.Proofs.YtodfkdnkgedgeaaT
