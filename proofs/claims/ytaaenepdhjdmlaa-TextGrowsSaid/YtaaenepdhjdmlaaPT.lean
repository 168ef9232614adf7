/- Walks over the program's functions, on values without memory, and what they come to. No condition. -/
import Derived.Test.YtaaenepdhjdmlaaBase
import Derived.Shelf.Strings.BuilderK
import Derived.Shelf.Strings.BuilderX
set_option linter.unusedVariables false
set_option linter.unusedSimpArgs false
namespace Go.Proofs.YtaaenepdhjdmlaaT
open Go Go.Proofs Go.Shelf Go.RowKit
set_option linter.unusedVariables false
def bF (n : Nat) : Nat := if n = 166 then 30 else if n = 167 then 28 else if n = 169 then 29 else if n = 240 then 32 else if n = 276 then 33 else n
def bT (n : Nat) : Nat := if n = 37 then 36 else if n = 70 then 56 else if n = 72 then 58 else if n = 75 then 60 else if n = 80 then 62 else if n = 127 then 65 else if n = 164 then 66 else n
def bR : Ren := ⟨bF, bT, fun x => x⟩
set_option maxRecDepth 100000 in
theorem L167 : Lays.n167 Try.prog bR := by
  constructor <;> first | kernel_rfl | (intro w; kernel_rfl)
set_option maxRecDepth 100000 in
theorem L166 : Lays.n166 Try.prog bR := by
  constructor <;> first | kernel_rfl | (intro w; kernel_rfl)
set_option maxRecDepth 100000 in
theorem L169 : Lays.n169 Try.prog bR := by
  constructor <;> first | kernel_rfl | (intro w; kernel_rfl)
theorem bX : Builder.Extra Try.prog bR where
  sizeBuilder := by kernel_rfl
  liesBuilder := by kernel_rfl
  t5 := by kernel_rfl
  a5 := by intro w; kernel_rfl
  z5 := by intro w; kernel_rfl
  v5 := by intro w; kernel_rfl
  infoByte := by kernel_rfl
  cellsByte := by kernel_rfl
  sizeByte := by kernel_rfl
  neB5 := by decide
theorem wb_spec (B b : Nat) (bs : List Value) (c : Int) (w : World) (h : Lib.IsBuilderF 58 5 B b bs w) (hlen : bs.length + 1 ≤ 140737488355328) (hBw : B ≤ w.heap.size) :
    Calls Try.prog 28 #[.pointer (some ⟨b, 0, none⟩), .int .u8 c] w fun e w' => e = .returned .nilIface ∧ (Lib.BuilderAtF 58 5 B b (.pointer (some ⟨b, 0, none⟩)) (bs ++ [.int .u8 c]) w' ∧ Below B w w' ∧ Lib.OthersKept 5 (some b) w w') := Any.Builder_WriteByte_k L167 bX B b bs c w h hlen hBw
theorem ws_spec (B b : Nat) (bs : List Value) (s : ByteArray) (w : World) (h : Lib.IsBuilderF 58 5 B b bs w) (hlen : bs.length + s.size ≤ 140737488355328) (hBw : B ≤ w.heap.size) :
    Calls Try.prog 30 #[.pointer (some ⟨b, 0, none⟩), .string s] w fun e w' => e = .returned (.tuple #[.int .i64 s.size, .nilIface]) ∧ (Lib.BuilderAtF 58 5 B b (.pointer (some ⟨b, 0, none⟩)) (bs ++ Lib.strCells s) w' ∧ Below B w w' ∧ Lib.OthersKept 5 (some b) w w') := Any.Builder_WriteString_k L166 bX B b bs s w h hlen hBw
theorem st_spec (B b : Nat) (l : List UInt8) (w : World) (h : Lib.IsBuilderF 58 5 B b (Lib.byteCells l) w) (hBw : B ≤ w.heap.size) :
    Calls Try.prog 29 #[.pointer (some ⟨b, 0, none⟩)] w fun e w' => e = .returned (.string ⟨l.toArray⟩) ∧ (Lib.IsBuilderF 58 5 B b (Lib.byteCells l) w' ∧ Below B w w' ∧ Lib.OthersKept 5 (some b) w w') := Any.Builder_String_any_k L169 bX B b l w h hBw
end Go.Proofs.YtaaenepdhjdmlaaT
