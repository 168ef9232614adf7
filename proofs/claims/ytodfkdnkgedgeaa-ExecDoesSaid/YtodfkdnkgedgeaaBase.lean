/- Walks over the program's functions, on values without memory, and what they come to. No condition. -/
import Derived.Test.YtodfkdnkgedgeaaTy
import Derived.Test.YtodfkdnkgedgeaaTw20
set_option linter.unusedVariables false
set_option linter.unusedSimpArgs false
namespace Go.Proofs.YtodfkdnkgedgeaaT
open Go Go.Proofs Go.RowKit Go.Proofs.YtodfkdnkgedgeaaT.Ty
def ints (l : List Int) : List (List AV) := l.map fun x => [.int .i64 x]
theorem ints_len (l : List Int) : (ints l).length = l.length := by simp [ints]
theorem ints_1 (l : List Int) : ∀ y ∈ ints l, y.length = 1 := by simp [ints]
theorem ints_app (l m : List Int) : ints l ++ ints m = ints (l ++ m) := by simp [ints]
theorem ints_one (x : Int) : [[AV.int .i64 x]] = ints [x] := rfl
theorem ints_nil (l : List Int) : (ints l = []) = (l = []) := by simp [ints]
theorem ints_get (l : List Int) (n : Nat) (h : n < l.length) : (ints l).getD n [] = [.int .i64 (l.getD n 0)] := by
 simp [ints, List.getD_eq_getElem?_getD, List.getElem?_eq_getElem h]
theorem wrap_i64 {n : Int} (h0 : -9223372036854775808 ≤ n) (h1 : n ≤ 9223372036854775807) : IntKind.i64.wrap n = n := by rw [IntKind.wrap_i64]; omega
theorem ints_take (l : List Int) (k : Nat) : (ints l).take k = ints (l.take k) := by simp [ints]
theorem ints_drop (l : List Int) (k : Nat) : (ints l).drop k = ints (l.drop k) := by simp [ints]
theorem ints_cat (l m : List Int) : ints l ++ ints m = ints (l ++ m) := by simp [ints]
theorem ints_snoc (l : List Int) (x : Int) : ints l ++ [[.int .i64 x]] = ints (l ++ [x]) := by simp [ints]
theorem ints_cons (l : List Int) (x : Int) : [.int .i64 x] :: ints l = ints (x :: l) := by simp [ints]
theorem mixed : Try.prog.follows .mixedOrders = true := by kernel_rfl
end Go.Proofs.YtodfkdnkgedgeaaT
