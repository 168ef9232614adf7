/- Walks over the program's functions, on values without memory, and what they come to. No condition. -/
import Derived.Test.YtbekdkhmpjamnaaBase
import Derived.Test.YtbekdkhmpjamnaaTw20
import Derived.Test.YtbekdkhmpjamnaaFPB
set_option linter.unusedVariables false
set_option linter.unusedSimpArgs false
namespace Go.Proofs.YtbekdkhmpjamnaaT
open Go Go.Proofs Go.RowKit Go.Proofs.YtbekdkhmpjamnaaT.Ty
namespace FQ
def qes (l : List (Int × Int)) : List (List AV) := l.map fun q => [.int .i64 q.1, .int .i64 q.2]
theorem qes_len (l : List (Int × Int)) : (qes l).length = l.length := by simp [qes]
theorem qes_2 (l : List (Int × Int)) : ∀ y ∈ qes l, y.length = 2 := by
  intro y h; simp only [qes, List.mem_map] at h; obtain ⟨q, _, rfl⟩ := h; rfl
theorem qes_get (l : List (Int × Int)) (n : Nat) (h : n < l.length) : (qes l).getD n [] = [.int .i64 (l.getD n (0, 0)).1, .int .i64 (l.getD n (0, 0)).2] := by
  simp [qes, List.getD_eq_getElem?_getD, List.getElem?_eq_getElem h]
theorem qes_set (l : List (Int × Int)) (n : Nat) (a b : Int) : (qes l).set n [.int .i64 a, .int .i64 b] = qes (l.set n (a, b)) := by
  simp [qes, List.map_set]
theorem ints_set (l : List Int) (n : Nat) (a : Int) : (ints l).set n [.int .i64 a] = ints (l.set n a) := by
  simp [ints, List.map_set]
theorem ints_getp (l : List Int) (n : Nat) (h : n < l.length) : (ints l).getD n [] = [.int .i64 (l.getD n 0)] := ints_get l n h
theorem qset_get (l : List (Int × Int)) (n : Nat) (h : n < l.length) (a b : Int) : (qes (l.set n (a, b))).getD n [] = [.int .i64 a, .int .i64 b] := by
  rw [qes_get _ _ (by rw [List.length_set]; exact h)]
  simp [List.getD_eq_getElem?_getD, List.getElem?_set, h]
def rws (l : List (List Int)) : List (List AV) := l.map fun x => [.sl false (ints x)]
theorem rws_len (l : List (List Int)) : (rws l).length = l.length := by simp [rws]
theorem rws_1 (l : List (List Int)) : ∀ y ∈ rws l, y.length = 1 := by
  intro y h; simp only [rws, List.mem_map] at h; obtain ⟨q, _, rfl⟩ := h; rfl
theorem rws_get (l : List (List Int)) (n : Nat) (h : n < l.length) : (rws l).getD n [] = [.sl false (ints (at' l n))] := by
  simp [rws, at', List.getD_eq_getElem?_getD, List.getElem?_eq_getElem h]
theorem rws_snoc (l : List (List Int)) (k : List Int) : rws l ++ [[.sl false (ints k)]] = rws (l ++ [k]) := by simp [rws]
def byts (l : List Int) : List (List AV) := l.map fun x => [.int .u8 x]
theorem byts_len (l : List Int) : (byts l).length = l.length := by simp [byts]
theorem byts_1 (l : List Int) : ∀ y ∈ byts l, y.length = 1 := by simp [byts]
theorem byts_get (l : List Int) (n : Nat) (h : n < l.length) : (byts l).getD n [] = [.int .u8 (l.getD n 0)] := by
  simp [byts, List.getD_eq_getElem?_getD, List.getElem?_eq_getElem h]
def U8 (l : List Int) : Prop := ∀ x ∈ l, 0 ≤ x ∧ x < 256
theorem U8.get {l : List Int} (h : U8 l) {n : Nat} (hn : n < l.length) : 0 ≤ l.getD n 0 ∧ l.getD n 0 < 256 := by
  rw [List.getD_eq_getElem?_getD, List.getElem?_eq_getElem hn]; exact h _ (List.getElem_mem hn)
theorem wrap_u8 {n : Int} (h0 : 0 ≤ n) (h1 : n < 256) : IntKind.u8.wrap n = n := by
  rw [IntKind.wrap_u8]; omega
/-- An arena of n numbers, whose queues are L. -/
def AO (n : Nat) (L : List (List Int)) : List HO := [.box [.bsl 1, .bsl 2, .bsl 3], .arr 3 1 (ints (row n (nxF L))), .arr 3 1 (ints (row n (inF L))), .arr 65 2 (qes (qF L))]
end FQ
end Go.Proofs.YtbekdkhmpjamnaaT
