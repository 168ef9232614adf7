/- Printed by a program of this session (over the kit's print): functions in plain form, and what their calls come to. -/
import Derived.Test.YtibkpacjijbblaaQPlaysx0
import Derived.Test.YtibkpacjijbblaaQPlaysx1
import Derived.Test.YtibkpacjijbblaaQPlaysx2
import Derived.Test.YtibkpacjijbblaaQPlaysx3
import Derived.Test.YtibkpacjijbblaaQPlaysx4
namespace Go.Proofs.Ytibkpacjijbblaa.QPlays
open Go.RowKit Go.Proofs.YtibkpacjijbblaaW.PrintWords Go.Proofs.YtibkpacjijbblaaW.PrintLast Go.Proofs.YtibkpacjijbblaaW.PrintMore
attribute [local go_sem] max2_int min2_int max_two min_two max_three min_three max_four min_four   -- for this text's walks alone
set_option linter.unusedVariables false
set_option linter.unusedSimpArgs false

/-! ### catafalquelaw11_BoxPlays: function 13 -/
mutual
def catafalquelaw11_BoxPlays.l0 : Nat → List Int → Bool → List Int → List Int → Int → Int → Int → List Int → List (S65) → List Int → Option (Bool)
  | 0, _, _, _, _, _, _, _, _, _, _ => none
  | k + 1, x1, x5, x7, x8, x9, x10, x250000, x250001, x250002, x250003 => if x10 < (x1.length : Int) then (catafalquelaw11_BoxPlays.j1 k x1 x5 x7 x8 x9 x10 (decide (x10 < 300)) x250000 x250001 x250002 x250003) else (catafalquelaw11_BoxPlays.j1 k x1 x5 x7 x8 x9 x10 false x250000 x250001 x250002 x250003)
def catafalquelaw11_BoxPlays.j1 : Nat → List Int → Bool → List Int → List Int → Int → Int → Bool → Int → List Int → List (S65) → List Int → Option (Bool)
  | 0, _, _, _, _, _, _, _, _, _, _, _ => none
  | k + 1, x1, x5, x7, x8, x9, x10, x30, x250000, x250001, x250002, x250003 => if x30 = true then (if 0 ≤ x10 then (if x10 < (x1.length : Int) then (if (rd x1 x10) = 0 then ((box_Recv.f k x250000 x250001 x250002 x250003 (wrap64 (x10 + 1))).bind fun bt251 => (if (bt251.2.2.2.2.2.2 != (decide (x9 < (x7.length : Int)))) = true then (catafalquelaw11_BoxPlays.j2 k x1 x5 x7 x8 x9 x10 bt251.2.2.2.2.2.2 true bt251.1 bt251.2.1 bt251.2.2.1 bt251.2.2.2.1) else (if bt251.2.2.2.2.2.2 = true then (if 0 ≤ x9 then (if x9 < (x7.length : Int) then (catafalquelaw11_BoxPlays.j2 k x1 x5 x7 x8 x9 x10 bt251.2.2.2.2.2.2 (bt251.2.2.2.2.1 != (rd x7 x9)) bt251.1 bt251.2.1 bt251.2.2.1 bt251.2.2.2.1) else (none)) else (none)) else (catafalquelaw11_BoxPlays.j2 k x1 x5 x7 x8 x9 x10 bt251.2.2.2.2.2.2 false bt251.1 bt251.2.1 bt251.2.2.1 bt251.2.2.2.1)))) else ((box_Send.f x250000 x250001 x250002 x250003 (wrap64 (x10 + 1)) (rd x1 x10)).bind fun bt270 => (if ((bt270.2.2.2.2.1 != 0) != (decide ((x8.length : Int) > 0))) = true then (catafalquelaw11_BoxPlays.j3 k x1 x5 x7 x8 x9 x10 bt270.2.2.2.2.1 true bt270.1 bt270.2.1 bt270.2.2.1 bt270.2.2.2.1) else (if bt270.2.2.2.2.1 = 0 then (catafalquelaw11_BoxPlays.j3 k x1 x5 x7 x8 x9 x10 bt270.2.2.2.2.1 false bt270.1 bt270.2.1 bt270.2.2.1 bt270.2.2.2.1) else (if 0 < (x8.length : Int) then (catafalquelaw11_BoxPlays.j3 k x1 x5 x7 x8 x9 x10 bt270.2.2.2.2.1 (bt270.2.2.2.2.1 != (rd x8 0)) bt270.1 bt270.2.1 bt270.2.2.1 bt270.2.2.2.1) else (none)))))) else (none)) else (none)) else (some x5)
def catafalquelaw11_BoxPlays.j4 : Nat → List Int → Bool → List Int → List Int → Int → Int → Int → List Int → List (S65) → List Int → Option (Bool)
  | 0, _, _, _, _, _, _, _, _, _, _ => none
  | k + 1, x1, x5, x7, x8, x9, x10, x250000, x250001, x250002, x250003 => (box_May.f k x250000 x250001 x250002 x250003).bind fun t291 => (if t291 = true then (if (wrap64 ((x250001.length : Int) + (x250002.length : Int))) = (wrap64 ((x7.length : Int) - x9)) then ((catafalqueref01_Ints.f k x250003 x8).bind fun t292 => (if t292 = true then (catafalquelaw11_BoxPlays.l0 k x1 x5 x7 x8 x9 (wrap64 (x10 + 1)) x250000 x250001 x250002 x250003) else (some false))) else (some false)) else (some false))
def catafalquelaw11_BoxPlays.j2 : Nat → List Int → Bool → List Int → List Int → Int → Int → Bool → Bool → Int → List Int → List (S65) → List Int → Option (Bool)
  | 0, _, _, _, _, _, _, _, _, _, _, _, _ => none
  | k + 1, x1, x5, x7, x8, x9, x10, x14, x64, x250000, x250001, x250002, x250003 => if x64 = true then (some false) else (if x14 = true then (catafalquelaw11_BoxPlays.j4 k x1 x5 x7 x8 (wrap64 (x9 + 1)) x10 x250000 x250001 x250002 x250003) else (if x8.length < 17592186044416 then (catafalquelaw11_BoxPlays.j4 k x1 x5 x7 (x8 ++ [wrap64 (x10 + 1)]) x9 x10 x250000 x250001 x250002 x250003) else (none)))
def catafalquelaw11_BoxPlays.j3 : Nat → List Int → Bool → List Int → List Int → Int → Int → Int → Bool → Int → List Int → List (S65) → List Int → Option (Bool)
  | 0, _, _, _, _, _, _, _, _, _, _, _, _ => none
  | k + 1, x1, x5, x7, x8, x9, x10, x16, x102, x250000, x250001, x250002, x250003 => if x102 = true then (some false) else (if x16 = 0 then (if 0 ≤ x10 then (if x10 < (x1.length : Int) then (if x7.length < 17592186044416 then (catafalquelaw11_BoxPlays.j4 k x1 x5 (x7 ++ [rd x1 x10]) x8 x9 x10 x250000 x250001 x250002 x250003) else (none)) else (none)) else (none)) else (if 1 ≤ (x8.length : Int) then (catafalquelaw11_BoxPlays.j4 k x1 x5 x7 (x8.drop (1 : Int).toNat) x9 x10 x250000 x250001 x250002 x250003) else (none)))
end
def catafalquelaw11_BoxPlays.f (k : Nat) (a0 : Int) (l1 : List Int) : Option (Bool) := (catafalquelaw11_shown.f k).bind fun t248 => (catafalquelaw11_BoxPlays.l0 k l1 t248 ([] : List Int) ([] : List Int) 0 0 (wrap64 (Int.tmod a0 9)) ([] : List Int) ([] : List (S65)) ([] : List Int))
theorem catafalquelaw11_BoxPlays.mono_l : ∀ k, (∀ y0 y1 y2 y3 y4 y5 y6 y7 y8 y9, LeO (catafalquelaw11_BoxPlays.l0 k y0 y1 y2 y3 y4 y5 y6 y7 y8 y9) (catafalquelaw11_BoxPlays.l0 (k + 1) y0 y1 y2 y3 y4 y5 y6 y7 y8 y9)) ∧ (∀ y0 y1 y2 y3 y4 y5 y6 y7 y8 y9 y10, LeO (catafalquelaw11_BoxPlays.j1 k y0 y1 y2 y3 y4 y5 y6 y7 y8 y9 y10) (catafalquelaw11_BoxPlays.j1 (k + 1) y0 y1 y2 y3 y4 y5 y6 y7 y8 y9 y10)) ∧ (∀ y0 y1 y2 y3 y4 y5 y6 y7 y8 y9, LeO (catafalquelaw11_BoxPlays.j4 k y0 y1 y2 y3 y4 y5 y6 y7 y8 y9) (catafalquelaw11_BoxPlays.j4 (k + 1) y0 y1 y2 y3 y4 y5 y6 y7 y8 y9)) ∧ (∀ y0 y1 y2 y3 y4 y5 y6 y7 y8 y9 y10 y11, LeO (catafalquelaw11_BoxPlays.j2 k y0 y1 y2 y3 y4 y5 y6 y7 y8 y9 y10 y11) (catafalquelaw11_BoxPlays.j2 (k + 1) y0 y1 y2 y3 y4 y5 y6 y7 y8 y9 y10 y11)) ∧ (∀ y0 y1 y2 y3 y4 y5 y6 y7 y8 y9 y10 y11, LeO (catafalquelaw11_BoxPlays.j3 k y0 y1 y2 y3 y4 y5 y6 y7 y8 y9 y10 y11) (catafalquelaw11_BoxPlays.j3 (k + 1) y0 y1 y2 y3 y4 y5 y6 y7 y8 y9 y10 y11))
  | 0 => ⟨fun _ _ _ _ _ _ _ _ _ _ r h => by simp [catafalquelaw11_BoxPlays.l0] at h, fun _ _ _ _ _ _ _ _ _ _ _ r h => by simp [catafalquelaw11_BoxPlays.j1] at h, fun _ _ _ _ _ _ _ _ _ _ r h => by simp [catafalquelaw11_BoxPlays.j4] at h, fun _ _ _ _ _ _ _ _ _ _ _ _ r h => by simp [catafalquelaw11_BoxPlays.j2] at h, fun _ _ _ _ _ _ _ _ _ _ _ _ r h => by simp [catafalquelaw11_BoxPlays.j3] at h⟩
  | k + 1 => by
    obtain ⟨ih0, ih1, ih2, ih3, ih4⟩ := catafalquelaw11_BoxPlays.mono_l k
    refine ⟨?_, ?_, ?_, ?_, ?_⟩
    · intro y0 y1 y2 y3 y4 y5 y6 y7 y8 y9
      unfold catafalquelaw11_BoxPlays.l0
      repeat' first
      | (with_reducible exact ih0 _ _ _ _ _ _ _ _ _ _)
      | (with_reducible exact ih1 _ _ _ _ _ _ _ _ _ _ _)
      | (with_reducible exact ih2 _ _ _ _ _ _ _ _ _ _)
      | (with_reducible exact ih3 _ _ _ _ _ _ _ _ _ _ _ _)
      | (with_reducible exact ih4 _ _ _ _ _ _ _ _ _ _ _ _)
      | (with_reducible exact box_May.mono _ _ _ _ _)
      | (with_reducible exact box_Recv.mono _ _ _ _ _ _)
      | (with_reducible exact catafalquelaw11_shown.mono _)
      | (with_reducible exact catafalqueref01_Ints.mono _ _ _)
      | (with_reducible exact LeO.refl _)
      | (with_reducible exact LeO.none _)
      | (with_reducible refine LeO.ite ?_ ?_)
      | (with_reducible refine LeO.bind ?_ (fun _ => ?_))
      | exact ih0 _ _ _ _ _ _ _ _ _ _
      | exact ih1 _ _ _ _ _ _ _ _ _ _ _
      | exact ih2 _ _ _ _ _ _ _ _ _ _
      | exact ih3 _ _ _ _ _ _ _ _ _ _ _ _
      | exact ih4 _ _ _ _ _ _ _ _ _ _ _ _
      | exact box_May.mono _ _ _ _ _
      | exact box_Recv.mono _ _ _ _ _ _
      | exact catafalquelaw11_shown.mono _
      | exact catafalqueref01_Ints.mono _ _ _
      | exact LeO.none _
      | refine LeO.ite ?_ ?_
      | refine LeO.bind ?_ (fun _ => ?_)
    · intro y0 y1 y2 y3 y4 y5 y6 y7 y8 y9 y10
      unfold catafalquelaw11_BoxPlays.j1
      repeat' first
      | (with_reducible exact ih0 _ _ _ _ _ _ _ _ _ _)
      | (with_reducible exact ih1 _ _ _ _ _ _ _ _ _ _ _)
      | (with_reducible exact ih2 _ _ _ _ _ _ _ _ _ _)
      | (with_reducible exact ih3 _ _ _ _ _ _ _ _ _ _ _ _)
      | (with_reducible exact ih4 _ _ _ _ _ _ _ _ _ _ _ _)
      | (with_reducible exact box_May.mono _ _ _ _ _)
      | (with_reducible exact box_Recv.mono _ _ _ _ _ _)
      | (with_reducible exact catafalquelaw11_shown.mono _)
      | (with_reducible exact catafalqueref01_Ints.mono _ _ _)
      | (with_reducible exact LeO.refl _)
      | (with_reducible exact LeO.none _)
      | (with_reducible refine LeO.ite ?_ ?_)
      | (with_reducible refine LeO.bind ?_ (fun _ => ?_))
      | exact ih0 _ _ _ _ _ _ _ _ _ _
      | exact ih1 _ _ _ _ _ _ _ _ _ _ _
      | exact ih2 _ _ _ _ _ _ _ _ _ _
      | exact ih3 _ _ _ _ _ _ _ _ _ _ _ _
      | exact ih4 _ _ _ _ _ _ _ _ _ _ _ _
      | exact box_May.mono _ _ _ _ _
      | exact box_Recv.mono _ _ _ _ _ _
      | exact catafalquelaw11_shown.mono _
      | exact catafalqueref01_Ints.mono _ _ _
      | exact LeO.none _
      | refine LeO.ite ?_ ?_
      | refine LeO.bind ?_ (fun _ => ?_)
    · intro y0 y1 y2 y3 y4 y5 y6 y7 y8 y9
      unfold catafalquelaw11_BoxPlays.j4
      repeat' first
      | (with_reducible exact ih0 _ _ _ _ _ _ _ _ _ _)
      | (with_reducible exact ih1 _ _ _ _ _ _ _ _ _ _ _)
      | (with_reducible exact ih2 _ _ _ _ _ _ _ _ _ _)
      | (with_reducible exact ih3 _ _ _ _ _ _ _ _ _ _ _ _)
      | (with_reducible exact ih4 _ _ _ _ _ _ _ _ _ _ _ _)
      | (with_reducible exact box_May.mono _ _ _ _ _)
      | (with_reducible exact box_Recv.mono _ _ _ _ _ _)
      | (with_reducible exact catafalquelaw11_shown.mono _)
      | (with_reducible exact catafalqueref01_Ints.mono _ _ _)
      | (with_reducible exact LeO.refl _)
      | (with_reducible exact LeO.none _)
      | (with_reducible refine LeO.ite ?_ ?_)
      | (with_reducible refine LeO.bind ?_ (fun _ => ?_))
      | exact ih0 _ _ _ _ _ _ _ _ _ _
      | exact ih1 _ _ _ _ _ _ _ _ _ _ _
      | exact ih2 _ _ _ _ _ _ _ _ _ _
      | exact ih3 _ _ _ _ _ _ _ _ _ _ _ _
      | exact ih4 _ _ _ _ _ _ _ _ _ _ _ _
      | exact box_May.mono _ _ _ _ _
      | exact box_Recv.mono _ _ _ _ _ _
      | exact catafalquelaw11_shown.mono _
      | exact catafalqueref01_Ints.mono _ _ _
      | exact LeO.none _
      | refine LeO.ite ?_ ?_
      | refine LeO.bind ?_ (fun _ => ?_)
    · intro y0 y1 y2 y3 y4 y5 y6 y7 y8 y9 y10 y11
      unfold catafalquelaw11_BoxPlays.j2
      repeat' first
      | (with_reducible exact ih0 _ _ _ _ _ _ _ _ _ _)
      | (with_reducible exact ih1 _ _ _ _ _ _ _ _ _ _ _)
      | (with_reducible exact ih2 _ _ _ _ _ _ _ _ _ _)
      | (with_reducible exact ih3 _ _ _ _ _ _ _ _ _ _ _ _)
      | (with_reducible exact ih4 _ _ _ _ _ _ _ _ _ _ _ _)
      | (with_reducible exact box_May.mono _ _ _ _ _)
      | (with_reducible exact box_Recv.mono _ _ _ _ _ _)
      | (with_reducible exact catafalquelaw11_shown.mono _)
      | (with_reducible exact catafalqueref01_Ints.mono _ _ _)
      | (with_reducible exact LeO.refl _)
      | (with_reducible exact LeO.none _)
      | (with_reducible refine LeO.ite ?_ ?_)
      | (with_reducible refine LeO.bind ?_ (fun _ => ?_))
      | exact ih0 _ _ _ _ _ _ _ _ _ _
      | exact ih1 _ _ _ _ _ _ _ _ _ _ _
      | exact ih2 _ _ _ _ _ _ _ _ _ _
      | exact ih3 _ _ _ _ _ _ _ _ _ _ _ _
      | exact ih4 _ _ _ _ _ _ _ _ _ _ _ _
      | exact box_May.mono _ _ _ _ _
      | exact box_Recv.mono _ _ _ _ _ _
      | exact catafalquelaw11_shown.mono _
      | exact catafalqueref01_Ints.mono _ _ _
      | exact LeO.none _
      | refine LeO.ite ?_ ?_
      | refine LeO.bind ?_ (fun _ => ?_)
    · intro y0 y1 y2 y3 y4 y5 y6 y7 y8 y9 y10 y11
      unfold catafalquelaw11_BoxPlays.j3
      repeat' first
      | (with_reducible exact ih0 _ _ _ _ _ _ _ _ _ _)
      | (with_reducible exact ih1 _ _ _ _ _ _ _ _ _ _ _)
      | (with_reducible exact ih2 _ _ _ _ _ _ _ _ _ _)
      | (with_reducible exact ih3 _ _ _ _ _ _ _ _ _ _ _ _)
      | (with_reducible exact ih4 _ _ _ _ _ _ _ _ _ _ _ _)
      | (with_reducible exact box_May.mono _ _ _ _ _)
      | (with_reducible exact box_Recv.mono _ _ _ _ _ _)
      | (with_reducible exact catafalquelaw11_shown.mono _)
      | (with_reducible exact catafalqueref01_Ints.mono _ _ _)
      | (with_reducible exact LeO.refl _)
      | (with_reducible exact LeO.none _)
      | (with_reducible refine LeO.ite ?_ ?_)
      | (with_reducible refine LeO.bind ?_ (fun _ => ?_))
      | exact ih0 _ _ _ _ _ _ _ _ _ _
      | exact ih1 _ _ _ _ _ _ _ _ _ _ _
      | exact ih2 _ _ _ _ _ _ _ _ _ _
      | exact ih3 _ _ _ _ _ _ _ _ _ _ _ _
      | exact ih4 _ _ _ _ _ _ _ _ _ _ _ _
      | exact box_May.mono _ _ _ _ _
      | exact box_Recv.mono _ _ _ _ _ _
      | exact catafalquelaw11_shown.mono _
      | exact catafalqueref01_Ints.mono _ _ _
      | exact LeO.none _
      | refine LeO.ite ?_ ?_
      | refine LeO.bind ?_ (fun _ => ?_)
theorem catafalquelaw11_BoxPlays.mono : ∀ a0 a1 k, LeO (catafalquelaw11_BoxPlays.f k a0 a1) (catafalquelaw11_BoxPlays.f (k + 1) a0 a1) := by
  intro a0 a1 k
  obtain ⟨ih0, ih1, ih2, ih3, ih4⟩ := catafalquelaw11_BoxPlays.mono_l k
  unfold catafalquelaw11_BoxPlays.f
  repeat' first
      | (with_reducible exact ih0 _ _ _ _ _ _ _ _ _ _)
      | (with_reducible exact ih1 _ _ _ _ _ _ _ _ _ _ _)
      | (with_reducible exact ih2 _ _ _ _ _ _ _ _ _ _)
      | (with_reducible exact ih3 _ _ _ _ _ _ _ _ _ _ _ _)
      | (with_reducible exact ih4 _ _ _ _ _ _ _ _ _ _ _ _)
      | (with_reducible exact box_May.mono _ _ _ _ _)
      | (with_reducible exact box_Recv.mono _ _ _ _ _ _)
      | (with_reducible exact catafalquelaw11_shown.mono _)
      | (with_reducible exact catafalqueref01_Ints.mono _ _ _)
      | (with_reducible exact LeO.refl _)
      | (with_reducible exact LeO.none _)
      | (with_reducible refine LeO.ite ?_ ?_)
      | (with_reducible refine LeO.bind ?_ (fun _ => ?_))
      | exact ih0 _ _ _ _ _ _ _ _ _ _
      | exact ih1 _ _ _ _ _ _ _ _ _ _ _
      | exact ih2 _ _ _ _ _ _ _ _ _ _
      | exact ih3 _ _ _ _ _ _ _ _ _ _ _ _
      | exact ih4 _ _ _ _ _ _ _ _ _ _ _ _
      | exact box_May.mono _ _ _ _ _
      | exact box_Recv.mono _ _ _ _ _ _
      | exact catafalquelaw11_shown.mono _
      | exact catafalqueref01_Ints.mono _ _ _
      | exact LeO.none _
      | refine LeO.ite ?_ ?_
      | refine LeO.bind ?_ (fun _ => ?_)
def catafalquelaw11_BoxPlays.T17 : Bool × List (List Nat × List Nat) := (true, [([], []), ([], []), ([1], [1]), ([], []), ([], []), ([3, 4], [3, 4]), ([5], [5]), ([0, 2, 6], [0, 2, 6]), ([7], [7]), ([8], [8]), ([8], [8]), ([8], [8]), ([], []), ([12, 9, 7, 0, 1, 2, 3, 4, 5, 6, 7, 8, 9, 12], [9, 12]), ([10, 13, 0, 1, 2, 3, 4, 5, 6, 7, 8, 9, 10, 12, 13], [10]), ([11, 14, 0, 1, 2, 3, 4, 5, 6, 7, 8, 9, 10, 11, 12, 13, 14], [11])])
def catafalquelaw11_BoxPlays.B17 : List Nat := [0, 0, 2, 0, 0, 24, 56, 127, 255, 511, 511, 511, 0, 5119, 14335, 32767]
theorem catafalquelaw11_BoxPlays.tab17 : rtab .any (opsOf Try.f13 17) = catafalquelaw11_BoxPlays.T17 := by kernel_rfl
theorem catafalquelaw11_BoxPlays.bits17 : waitsOk catafalquelaw11_BoxPlays.T17.2 catafalquelaw11_BoxPlays.B17 = true := by kernel_rfl
set_option maxHeartbeats 8000000 in
set_option maxRecDepth 100000 in
theorem catafalquelaw11_BoxPlays.calls (k : Nat) (a0 : Int) (A1 : Option Addr) (c1 : Nat) (l1 : List Int) (r : Bool) (w : World) (hr1 : Kd.C (Kd.int .i64) w A1 l1.length l1) (hc1 : l1.length ≤ c1) (h : catafalquelaw11_BoxPlays.f k a0 l1 = some r) :
    Calls Try.prog 13 #[.int .u8 a0, .slice A1 l1.length c1] w fun e w' => e = .returned (.bool r) ∧ Below w.heap.size w w' := by
  have hu27 := Try.underlying27
  have HR1 := Aside0.mk hr1
  have HC1 := Aside0.mk hc1
  clear hr1 hc1
  have HB := Aside0.mk (Below.refl w.heap.size w)
  have H : ((catafalquelaw11_shown.f k).bind fun t248 => (catafalquelaw11_BoxPlays.l0 k l1 t248 ([] : List Int) ([] : List Int) 0 0 (wrap64 (Int.tmod a0 9)) ([] : List Int) ([] : List (S65)) ([] : List Int))) = some r := h
  clear h
  replace H := Option.bind_eq_some_iff.mp H
  obtain ⟨t248, A30, H⟩ := H
  replace H : (catafalquelaw11_BoxPlays.l0 k l1 t248 ([] : List Int) ([] : List Int) 0 0 (wrap64 (Int.tmod a0 9)) ([] : List Int) ([] : List (S65)) ([] : List Int)) = some r := H
  have A3 := Aside0.mk A30
  clear A30
  have H' := Aside0.mk H
  clear H
  go_enter Try.func13, Try.ntmps13
  go_wp2_with (first | ((with_reducible refine gate_callee (f := 14) rfl ?_); refine goesL_ (some 18) rfl rfl Try.func14 (by kernel_rfl) rfl #[] rfl (by (try simp only [List.map_toArray, List.map_cons, List.map_nil]); first | done | rfl | (simp only [List.length_drop, List.length_take]; rfl)) ?_; (with_reducible refine (catafalquelaw11_shown.calls k  t248 _ A3.out).mono ?_); rintro e w4 ⟨rfl, hb⟩; refine ⟨_, rfl, ?_⟩; have n0_ := Aside0.mk (below_step (by repeat (first | (with_reducible first | exact HB.out | apply below_alloc | apply pw_below_drewN | apply below_drew1) | exact HB.out)) hb); clear HB; have HB := n0_; clear n0_; (try clear hb); (try clear hb2); (try clear hk); (try clear hi)) | ((with_reducible refine gate_dst (N := 6) rfl ?_); (try (refine gate_guard (by rfl) ?_; dsimp only)); refine box_event ?hg (N := 6) ?hd (cs := #[.int .i64 0, .slice none 0 0, .slice none 0 0, .slice none 0 0]) (t := 27) ?hr ?_; (case hd => rfl); (case hg => rfl); (case hr => first | (go_simp; done) | (go_simp; rfl)); intro gb249 hg w5 hbox hb; have n0_ := Aside0.mk (below_step (by repeat (first | (with_reducible first | exact HB.out | apply below_alloc | apply pw_below_drewN | apply below_drew1) | exact HB.out)) hb); have n1_ := Aside0.mk (hbox); have n2_ := Aside0.mk ((by rw [hg]; exact (below_size (by repeat (first | (with_reducible first | exact HB.out | apply below_alloc | apply pw_below_drewN | apply below_drew1) | exact HB.out))) : w.heap.size ≤ gb249)); have n3_ := Aside0.mk ((by rw [hg]; exact (below_size (by repeat (first | (with_reducible first | exact HB.out | apply below_alloc | apply pw_below_drewN | apply below_drew1) | exact HB.out))) : w.heap.size ≤ gb249)); clear HB; have HB := n0_; have BK249 := n1_; have GW249 := n2_; have GE249 := n3_; clear n0_ n1_ n2_ n3_; clear hb hbox hg; have hcz6_0 : w5.cell? ⟨gb249, 0, none⟩ = some (.int .i64 0) := (blk_cell BK249.out 0).trans rfl; have hcz6_1 : w5.cell? ⟨gb249, 1, none⟩ = some (.slice none 0 0) := (blk_cell BK249.out 1).trans rfl; have hcz6_2 : w5.cell? ⟨gb249, 2, none⟩ = some (.slice none 0 0) := (blk_cell BK249.out 2).trans rfl; have hcz6_3 : w5.cell? ⟨gb249, 3, none⟩ = some (.slice none 0 0) := (blk_cell BK249.out 3).trans rfl; have hfz6_0 := blk_frozen BK249.out 0; have hfz6_1 := blk_frozen BK249.out 1; have hfz6_2 := blk_frozen BK249.out 2; have hfz6_3 := blk_frozen BK249.out 3))
  go_loopg [7, 8, 9, 10] k (fun kq v7 v8 v9 v10 w' => ∃ (x7_1 : List Int) (x8_1 : List Int) (x9_1 : Int) (x10_1 : Int) (x250000_1 : Int) (x250001_1 : List Int) (x250002_1 : List (S65)) (x250003_1 : List Int) (u250001 : Value) (u250002 : Value) (u250003 : Value), v9 = .int .i64 x9_1 ∧ v10 = .int .i64 x10_1 ∧ Aside0 (catafalquelaw11_BoxPlays.l0 kq l1 t248 x7_1 x8_1 x9_1 x10_1 x250000_1 x250001_1 x250002_1 x250003_1 = some r) ∧ Aside0 (kq ≤ k) ∧ Aside0 (Kd.R (Kd.int .i64) 2 w' w.heap.size (fun k_ => some k_ ≠ (u250001 : Value).ownBlock) v7 x7_1) ∧ Aside0 (Kd.Q (Kd.int .i64) 3 w' w.heap.size (fun k_ => some k_ ≠ (u250003 : Value).ownBlock) v8 x8_1) ∧ Aside0 (Kd.R (Kd.int .i64) 2 w' w.heap.size (fun k_ => some k_ ≠ (v7 : Value).ownBlock) u250001 x250001_1) ∧ Aside0 (Kd.R k65 65 w' w.heap.size (fun _ => True) u250002 x250002_1) ∧ Aside0 (Kd.R (Kd.int .i64) 3 w' w.heap.size (fun k_ => some k_ ≠ (v8 : Value).ownBlock) u250003 x250003_1) ∧ Aside0 (w'.heap[gb249]? = some (.cells #[.int .i64 x250000_1, u250001, u250002, u250003] 27 (0, 0))) ∧ Aside0 (Below w.heap.size w w'))
  case atStart => exact ⟨(([] : List Int)), (([] : List Int)), (0), (0), (wrap64 (Int.tmod a0 9)), (([] : List Int)), (([] : List (S65))), (([] : List Int)), (.slice none 0 0), (.slice none 0 0), (.slice none 0 0), (by first | rfl | (simp; done) | (simp [*]; done)), (by first | rfl | (simp; done) | (simp [*]; done)), H', ⟨Nat.le_refl _⟩, ⟨by first | exact Kd.R_nil _ _ _ _ _ | exact Kd.N_nil _ _ _ _ _ | exact Kd.V_nil _ _ _ _ _ | exact Kd.Q_nil _ _ _ _ _ | exact Kd.S_nil _ _ _ _ _⟩, ⟨Kd.Q_of_R (by first | exact Kd.R_nil _ _ _ _ _ | exact Kd.N_nil _ _ _ _ _ | exact Kd.V_nil _ _ _ _ _ | exact Kd.Q_nil _ _ _ _ _ | exact Kd.S_nil _ _ _ _ _)⟩, ⟨by first | exact Kd.R_nil _ _ _ _ _ | exact Kd.N_nil _ _ _ _ _ | exact Kd.V_nil _ _ _ _ _ | exact Kd.Q_nil _ _ _ _ _ | exact Kd.S_nil _ _ _ _ _⟩, ⟨by first | exact Kd.R_nil _ _ _ _ _ | exact Kd.N_nil _ _ _ _ _ | exact Kd.V_nil _ _ _ _ _ | exact Kd.Q_nil _ _ _ _ _ | exact Kd.S_nil _ _ _ _ _⟩, ⟨by first | exact Kd.R_nil _ _ _ _ _ | exact Kd.N_nil _ _ _ _ _ | exact Kd.V_nil _ _ _ _ _ | exact Kd.Q_nil _ _ _ _ _ | exact Kd.S_nil _ _ _ _ _⟩, ⟨by (with_reducible repeat (first | refine blk_drewN ?_ _ | refine blk_drew ?_ | refine blk_alloc ?_ _)); refine blk_put (cs := #[.int .i64 (wrap64 (Int.tmod a0 9)), .slice none 0 0, .slice none 0 0, .slice none 0 0]) ?_ 3 _ rfl; (with_reducible repeat (first | refine blk_drewN ?_ _ | refine blk_drew ?_ | refine blk_alloc ?_ _)); refine blk_put (cs := #[.int .i64 (wrap64 (Int.tmod a0 9)), .slice none 0 0, .slice none 0 0, .slice none 0 0]) ?_ 2 _ rfl; (with_reducible repeat (first | refine blk_drewN ?_ _ | refine blk_drew ?_ | refine blk_alloc ?_ _)); refine blk_put (cs := #[.int .i64 (wrap64 (Int.tmod a0 9)), .slice none 0 0, .slice none 0 0, .slice none 0 0]) ?_ 1 _ rfl; (with_reducible repeat (first | refine blk_drewN ?_ _ | refine blk_drew ?_ | refine blk_alloc ?_ _)); refine blk_put (cs := #[.int .i64 0, .slice none 0 0, .slice none 0 0, .slice none 0 0]) ?_ 0 _ rfl; (with_reducible repeat (first | refine blk_drewN ?_ _ | refine blk_drew ?_ | refine blk_alloc ?_ _)); exact BK249.out⟩, ⟨by repeat (first | (with_reducible first | exact HB.out | apply below_alloc | apply pw_below_drewN | apply below_drew1 | refine below_set ?_ GE249.out) | exact HB.out)⟩⟩
  case round =>
    clear H'
    try clear c1
    try clear p2
    try clear p6
    try clear hcz6_0
    try clear hcz6_1
    try clear hcz6_2
    try clear hcz6_3
    try clear hfz6_0
    try clear hfz6_1
    try clear hfz6_2
    try clear hfz6_3
    obtain ⟨x7_1, x8_1, x9_1, x10_1, x250000_1, x250001_1, x250002_1, x250003_1, u250001, u250002, u250003, rfl, rfl, HA, HK1, HO_7, HO_8, HO_250001, HO_250002, HO_250003, BK249, HB⟩ := hrel
    cases gk with
    | zero => exact absurd HA.out (by simp [catafalquelaw11_BoxPlays.l0])
    | succ k1 =>
      have H := HA.out
      clear HA
      simp only [catafalquelaw11_BoxPlays.l0] at H
      have HC7 := Aside0.mk H
      clear H
      go_upto_region 7 with (fail)
      go_cut [30] (fun v30 wc => ∃ (kq : Nat) (x30_6 : Bool), v30 = .bool x30_6 ∧ Aside0 (catafalquelaw11_BoxPlays.j1 kq l1 t248 x7_1 x8_1 x9_1 x10_1 x30_6 x250000_1 x250001_1 x250002_1 x250003_1 = some r) ∧ Aside0 (kq ≤ k1) ∧ Aside0 (Kd.R (Kd.int .i64) 2 wc w.heap.size (fun k_ => some k_ ≠ (u250001 : Value).ownBlock) u7 x7_1) ∧ Aside0 (Kd.Q (Kd.int .i64) 3 wc w.heap.size (fun k_ => some k_ ≠ (u250003 : Value).ownBlock) u8 x8_1) ∧ Aside0 (Kd.R (Kd.int .i64) 2 wc w.heap.size (fun k_ => some k_ ≠ (u7 : Value).ownBlock) u250001 x250001_1) ∧ Aside0 (Kd.R k65 65 wc w.heap.size (fun _ => True) u250002 x250002_1) ∧ Aside0 (Kd.R (Kd.int .i64) 3 wc w.heap.size (fun k_ => some k_ ≠ (u8 : Value).ownBlock) u250003 x250003_1) ∧ Aside0 (wc.heap[gb249]? = some (.cells #[.int .i64 x250000_1, u250001, u250002, u250003] 27 (0, 0))) ∧ Aside0 (Below w.heap.size w wc))
      case first =>
        have H := HC7.out
        clear HC7
        by_cases c8 : x10_1 < (l1.length : Int)
        · rw [if_pos c8] at H
          have c8b0 : decide (x10_1 < (l1.length : Int)) = true := decide_eq_true c8
          clear c8
          (first | rw [c8b0] | (simp only [i64_w, i32_w]; rw [c8b0]) | skip)
          have H' := Aside0.mk H
          clear H
          go_wp2
          go_meet
          case rel => exact ⟨_, (decide (x10_1 < 300)), (by first | rfl | (simp; done) | (simp [*]; done)), H', ⟨by have := HK1.out; first | omega | exact Nat.le_refl _⟩, ⟨by (with_reducible repeat (first | apply Kd.R_alloc | apply Kd.R_drewN | apply Kd.R_drew)); exact HO_7.out⟩, ⟨by (with_reducible repeat (first | apply Kd.Q_alloc | apply Kd.Q_drewN | apply Kd.Q_drew)); exact HO_8.out⟩, ⟨by (with_reducible repeat (first | apply Kd.R_alloc | apply Kd.R_drewN | apply Kd.R_drew)); exact HO_250001.out⟩, ⟨by (with_reducible repeat (first | apply Kd.R_alloc | apply Kd.R_drewN | apply Kd.R_drew)); exact HO_250002.out⟩, ⟨by (with_reducible repeat (first | apply Kd.R_alloc | apply Kd.R_drewN | apply Kd.R_drew)); exact HO_250003.out⟩, ⟨by (with_reducible repeat (first | refine blk_drewN ?_ _ | refine blk_drew ?_ | refine blk_alloc ?_ _)); exact BK249.out⟩, ⟨by repeat (first | (with_reducible first | exact HB.out | apply below_alloc | apply pw_below_drewN | apply below_drew1 | refine below_set ?_ GE249.out) | exact HB.out)⟩⟩
        · rw [if_neg c8] at H
          have c8b0 : decide (x10_1 < (l1.length : Int)) = false := decide_eq_false c8
          clear c8
          (first | rw [c8b0] | (simp only [i64_w, i32_w]; rw [c8b0]) | skip)
          have H' := Aside0.mk H
          clear H
          go_wp2
          go_meet
          case rel => exact ⟨_, (false), (by first | rfl | (simp; done) | (simp [*]; done)), H', ⟨by have := HK1.out; first | omega | exact Nat.le_refl _⟩, ⟨by (with_reducible repeat (first | apply Kd.R_alloc | apply Kd.R_drewN | apply Kd.R_drew)); exact HO_7.out⟩, ⟨by (with_reducible repeat (first | apply Kd.Q_alloc | apply Kd.Q_drewN | apply Kd.Q_drew)); exact HO_8.out⟩, ⟨by (with_reducible repeat (first | apply Kd.R_alloc | apply Kd.R_drewN | apply Kd.R_drew)); exact HO_250001.out⟩, ⟨by (with_reducible repeat (first | apply Kd.R_alloc | apply Kd.R_drewN | apply Kd.R_drew)); exact HO_250002.out⟩, ⟨by (with_reducible repeat (first | apply Kd.R_alloc | apply Kd.R_drewN | apply Kd.R_drew)); exact HO_250003.out⟩, ⟨by (with_reducible repeat (first | refine blk_drewN ?_ _ | refine blk_drew ?_ | refine blk_alloc ?_ _)); exact BK249.out⟩, ⟨by repeat (first | (with_reducible first | exact HB.out | apply below_alloc | apply pw_below_drewN | apply below_drew1 | refine below_set ?_ GE249.out) | exact HB.out)⟩⟩
      case rest =>
        clear HC7
        try clear c1
        try clear p2
        try clear p6
        try clear c8
        try clear c8b0
        try clear hcz6_0
        try clear hcz6_1
        try clear hcz6_2
        try clear hcz6_3
        try clear hfz6_0
        try clear hfz6_1
        try clear hfz6_2
        try clear hfz6_3
        try clear p2
        try clear p6
        obtain ⟨kq, x30_6, rfl, HA, HJ6, HO_7, HO_8, HO_250001, HO_250002, HO_250003, BK249, HB⟩ := hcut
        cases kq with
        | zero => exact absurd HA.out (by simp [catafalquelaw11_BoxPlays.j1])
        | succ kj6 =>
          have H := HA.out
          clear HA
          simp only [catafalquelaw11_BoxPlays.j1] at H
          by_cases c9 : x30_6 = true
          · subst c9
            have H1 : (if 0 ≤ x10_1 then (if x10_1 < (l1.length : Int) then (if (rd l1 x10_1) = 0 then ((box_Recv.f kj6 x250000_1 x250001_1 x250002_1 x250003_1 (wrap64 (x10_1 + 1))).bind fun bt251 => (if (bt251.2.2.2.2.2.2 != (decide (x9_1 < (x7_1.length : Int)))) = true then (catafalquelaw11_BoxPlays.j2 kj6 l1 t248 x7_1 x8_1 x9_1 x10_1 bt251.2.2.2.2.2.2 true bt251.1 bt251.2.1 bt251.2.2.1 bt251.2.2.2.1) else (if bt251.2.2.2.2.2.2 = true then (if 0 ≤ x9_1 then (if x9_1 < (x7_1.length : Int) then (catafalquelaw11_BoxPlays.j2 kj6 l1 t248 x7_1 x8_1 x9_1 x10_1 bt251.2.2.2.2.2.2 (bt251.2.2.2.2.1 != (rd x7_1 x9_1)) bt251.1 bt251.2.1 bt251.2.2.1 bt251.2.2.2.1) else (none)) else (none)) else (catafalquelaw11_BoxPlays.j2 kj6 l1 t248 x7_1 x8_1 x9_1 x10_1 bt251.2.2.2.2.2.2 false bt251.1 bt251.2.1 bt251.2.2.1 bt251.2.2.2.1)))) else ((box_Send.f x250000_1 x250001_1 x250002_1 x250003_1 (wrap64 (x10_1 + 1)) (rd l1 x10_1)).bind fun bt270 => (if ((bt270.2.2.2.2.1 != 0) != (decide ((x8_1.length : Int) > 0))) = true then (catafalquelaw11_BoxPlays.j3 kj6 l1 t248 x7_1 x8_1 x9_1 x10_1 bt270.2.2.2.2.1 true bt270.1 bt270.2.1 bt270.2.2.1 bt270.2.2.2.1) else (if bt270.2.2.2.2.1 = 0 then (catafalquelaw11_BoxPlays.j3 kj6 l1 t248 x7_1 x8_1 x9_1 x10_1 bt270.2.2.2.2.1 false bt270.1 bt270.2.1 bt270.2.2.1 bt270.2.2.2.1) else (if 0 < (x8_1.length : Int) then (catafalquelaw11_BoxPlays.j3 kj6 l1 t248 x7_1 x8_1 x9_1 x10_1 bt270.2.2.2.2.1 (bt270.2.2.2.2.1 != (rd x8_1 0)) bt270.1 bt270.2.1 bt270.2.2.1 bt270.2.2.2.1) else (none)))))) else (none)) else (none)) = some r := by rw [if_pos rfl] at H; exact H
            clear H
            have H := H1
            clear H1
            by_cases c10 : 0 ≤ x10_1
            · rw [if_pos c10] at H
              have c10b0 : decide (0 ≤ x10_1) = true := decide_eq_true c10
              clear c10
              by_cases c11 : x10_1 < (l1.length : Int)
              · rw [if_pos c11] at H
                have c11b0 : decide (x10_1 < (l1.length : Int)) = true := decide_eq_true c11
                clear c11
                have HC12 := Aside0.mk H
                clear H
                have p250 : 0 ≤ (x10_1 : Int) := of_decide_eq_true (by first | (with_reducible assumption) | assumption)
                have q250 : x10_1 < (l1.length : Int) := of_decide_eq_true (by first | (with_reducible assumption) | assumption)
                obtain ⟨ad250, e250, hx250_0⟩ := Kd.at_int HR1.out x10_1 p250 q250
                cases e250
                replace hx250_0 := (HB.out.cell (World.block_lt_of_cell? w _ hx250_0)).trans hx250_0
                replace p250 := eq_true p250
                replace q250 := eq_true q250
                go_upto_if 37 with (fail)
                go_cut [7, 8, 9] (fun v7 v8 v9 wc => ∃ (kq : Nat) (x7_11 : List Int) (x8_11 : List Int) (x9_11 : Int) (x250000_11 : Int) (x250001_11 : List Int) (x250002_11 : List (S65)) (x250003_11 : List Int) (u250001 : Value) (u250002 : Value) (u250003 : Value), v9 = .int .i64 x9_11 ∧ Aside0 (catafalquelaw11_BoxPlays.j4 kq l1 t248 x7_11 x8_11 x9_11 x10_1 x250000_11 x250001_11 x250002_11 x250003_11 = some r) ∧ Aside0 (kq ≤ kj6) ∧ Aside0 (Kd.R (Kd.int .i64) 2 wc w.heap.size (fun k_ => some k_ ≠ (u250001 : Value).ownBlock) v7 x7_11) ∧ Aside0 (Kd.Q (Kd.int .i64) 3 wc w.heap.size (fun k_ => some k_ ≠ (u250003 : Value).ownBlock) v8 x8_11) ∧ Aside0 (Kd.R (Kd.int .i64) 2 wc w.heap.size (fun k_ => some k_ ≠ (v7 : Value).ownBlock) u250001 x250001_11) ∧ Aside0 (Kd.R k65 65 wc w.heap.size (fun _ => True) u250002 x250002_11) ∧ Aside0 (Kd.R (Kd.int .i64) 3 wc w.heap.size (fun k_ => some k_ ≠ (v8 : Value).ownBlock) u250003 x250003_11) ∧ Aside0 (wc.heap[gb249]? = some (.cells #[.int .i64 x250000_11, u250001, u250002, u250003] 27 (0, 0))) ∧ Aside0 (Below w.heap.size w wc))
                case first =>
                  have H := HC12.out
                  clear HC12
                  by_cases c13 : (rd l1 x10_1) = 0
                  · rw [if_pos c13] at H
                    have c13b0 : ((rd l1 x10_1) == 0) = true := beq_iff_eq.mpr c13
                    have c13b1 : ((rd l1 x10_1) != 0) = false := bne_eq_false_iff_eq.mpr c13
                    clear c13
                    (first | rw [c13b0] | (simp only [i64_w, i32_w]; rw [c13b0]) | skip)
                    replace H := Option.bind_eq_some_iff.mp H
                    obtain ⟨⟨t251, t252, t255, t258, t261, t262, t263⟩, A140, H⟩ := H
                    replace H : (if (t263 != (decide (x9_1 < (x7_1.length : Int)))) = true then (catafalquelaw11_BoxPlays.j2 kj6 l1 t248 x7_1 x8_1 x9_1 x10_1 t263 true t251 t252 t255 t258) else (if t263 = true then (if 0 ≤ x9_1 then (if x9_1 < (x7_1.length : Int) then (catafalquelaw11_BoxPlays.j2 kj6 l1 t248 x7_1 x8_1 x9_1 x10_1 t263 (t261 != (rd x7_1 x9_1)) t251 t252 t255 t258) else (none)) else (none)) else (catafalquelaw11_BoxPlays.j2 kj6 l1 t248 x7_1 x8_1 x9_1 x10_1 t263 false t251 t252 t255 t258))) = some r := H
                    have A14 := Aside0.mk A140
                    clear A140
                    have HC15 := Aside0.mk H
                    clear H
                    have hcz16_0 : wc.cell? ⟨gb249, 0, none⟩ = some (.int .i64 x250000_1) := (blk_cell BK249.out 0).trans rfl
                    have hcz16_1 : wc.cell? ⟨gb249, 1, none⟩ = some (u250001) := (blk_cell BK249.out 1).trans rfl
                    have hcz16_2 : wc.cell? ⟨gb249, 2, none⟩ = some (u250002) := (blk_cell BK249.out 2).trans rfl
                    have hcz16_3 : wc.cell? ⟨gb249, 3, none⟩ = some (u250003) := (blk_cell BK249.out 3).trans rfl
                    have hfz16_0 := blk_frozen BK249.out 0
                    have hfz16_1 := blk_frozen BK249.out 1
                    have hfz16_2 := blk_frozen BK249.out 2
                    have hfz16_3 := blk_frozen BK249.out 3
                    obtain ⟨Ao17, co17, eo17⟩ := Kd.R_slice HO_250001.out
                    subst eo17
                    obtain ⟨Ao18, co18, eo18⟩ := Kd.R_slice HO_250002.out
                    subst eo18
                    obtain ⟨Ao19, co19, eo19⟩ := Kd.R_slice HO_250003.out
                    subst eo19
                    go_upto_region 12 with (first | ((with_reducible refine gate_callee (f := 16) rfl ?_); refine goesL_ (some 42) rfl rfl Try.func16 (by kernel_rfl) rfl #[.agg #[.int .i64 x250000_1, .slice Ao17 x250001_1.length co17, .slice Ao18 x250002_1.length co18, .slice Ao19 x250003_1.length co19], .int .i64 (wrap64 (x10_1 + 1))] rfl (by (try simp only [List.map_toArray, List.map_cons, List.map_nil]); first | done | rfl | (simp only [List.length_drop, List.length_take]; rfl)) ?_; (with_reducible refine (box_Recv.calls kj6 x250000_1 (fun k_ => some k_ = (.slice Ao17 x250001_1.length co17 : Value).ownBlock) (.slice Ao17 x250001_1.length co17) x250001_1 (fun k_ => some k_ = (.slice Ao18 x250002_1.length co18 : Value).ownBlock) (.slice Ao18 x250002_1.length co18) x250002_1 (fun k_ => some k_ = (.slice Ao19 x250003_1.length co19 : Value).ownBlock) (.slice Ao19 x250003_1.length co19) x250003_1 (wrap64 (x10_1 + 1)) t251 t252 t255 t258 t261 t262 t263 w _ ?side1 ?side2 ?side3 ?side4 A14.out).mono ?_); (case side1 => repeat (first | (with_reducible first | exact HB.out | apply below_alloc | apply pw_below_drewN | apply below_drew1 | refine below_set ?_ GE249.out) | exact HB.out)); (case side2 => exact Kd.R_tight rfl HO_250001.out); (case side3 => exact Kd.R_tight rfl HO_250002.out); (case side4 => exact Kd.R_tight rfl HO_250003.out); rintro e w20 ⟨v253, v256, v259, rfl, ho0, ho1, ho2, hb, hkp⟩; refine ⟨_, rfl, ?_⟩; have n0_ := Aside0.mk (Kd.R_mono (ok' := fun k_ => some k_ ≠ (v253 : Value).ownBlock) (Kd.R_keptB ((Kd.R_apart' (Kd.R_apart' HO_7.out (Kd.R_typed HO_250002.out) (by decide)) (Kd.R_typed HO_250003.out) (by decide))) hkp (fun k_ hk_ hs_ => Or.elim hs_ (fun e_ => (hk_.1.1) e_) (fun e_ => Or.elim e_ (fun e_ => (hk_.1.2) e_) (fun e_ => (hk_.2) e_)))) (fun k_ hk_ => fun e_ => Or.elim (ho0.1 k_ e_.symm) (fun hs_ => hk_.2.1 hs_) (fun hn_ => Nat.not_le.2 hk_.2.2 hn_))); have n1_ := Aside0.mk (Kd.Q_mono (ok' := fun k_ => some k_ ≠ (v259 : Value).ownBlock) (Kd.Q_keptB ((Kd.Q_apart' (Kd.Q_apart' HO_8.out (Kd.R_typed HO_250001.out) (by decide)) (Kd.R_typed HO_250002.out) (by decide))) hkp (fun k_ hk_ hs_ => Or.elim hs_ (fun e_ => (hk_.1.2) e_) (fun e_ => Or.elim e_ (fun e_ => (hk_.2) e_) (fun e_ => (hk_.1.1) e_)))) (fun k_ hk_ => fun e_ => Or.elim (ho2.1 k_ e_.symm) (fun hs_ => hk_.2.1 hs_) (fun hn_ => Nat.not_le.2 hk_.2.2 hn_))); have n2_ := Aside0.mk (blk_kept (by (with_reducible repeat (first | refine blk_drewN ?_ _ | refine blk_drew ?_ | refine blk_alloc ?_ _)); exact BK249.out) hkp (fun hs_ => Or.elim hs_ (fun e_ => (fun e_ => (Kd.R_ne HO_250001.out BK249.out (by decide)) e_) e_) (fun e_ => Or.elim e_ (fun e_ => (fun e_ => (Kd.R_ne HO_250002.out BK249.out (by decide)) e_) e_) (fun e_ => (fun e_ => (Kd.R_ne HO_250003.out BK249.out (by decide)) e_) e_)))); have n3_ := Aside0.mk (Kd.R_mono (ok' := fun k_ => some k_ ≠ (u7 : Value).ownBlock) ho0 (fun k_ hk_ => Or.elim hk_ (fun hs_ => Or.elim hs_ (fun hs_ => fun e_ => ((((Kd.R_apart' (Kd.R_apart' HO_7.out (Kd.R_typed HO_250002.out) (by decide)) (Kd.R_typed HO_250003.out) (by decide))).1 k_ e_.symm).1.1) hs_) (fun hs_ => Or.elim hs_ (fun hs_ => fun e_ => ((((Kd.R_apart' (Kd.R_apart' HO_7.out (Kd.R_typed HO_250002.out) (by decide)) (Kd.R_typed HO_250003.out) (by decide))).1 k_ e_.symm).1.2) hs_) (fun hs_ => fun e_ => ((((Kd.R_apart' (Kd.R_apart' HO_7.out (Kd.R_typed HO_250002.out) (by decide)) (Kd.R_typed HO_250003.out) (by decide))).1 k_ e_.symm).2) hs_))) (fun hn_ => (Kd.fresh' (Kd.R_lt (by (with_reducible repeat (first | apply Kd.R_alloc | apply Kd.R_drewN | apply Kd.R_drew)); exact HO_7.out)) k_ hn_)))); have n4_ := Aside0.mk (Kd.R_mono (ok' := fun k_ => True) ho1 (fun k_ hk_ => trivial)); have n5_ := Aside0.mk (Kd.R_mono (ok' := fun k_ => some k_ ≠ (u8 : Value).ownBlock) ho2 (fun k_ hk_ => Or.elim hk_ (fun hs_ => Or.elim hs_ (fun hs_ => fun e_ => ((((Kd.Q_apart' (Kd.Q_apart' HO_8.out (Kd.R_typed HO_250001.out) (by decide)) (Kd.R_typed HO_250002.out) (by decide))).1 k_ e_.symm).1.2) hs_) (fun hs_ => Or.elim hs_ (fun hs_ => fun e_ => ((((Kd.Q_apart' (Kd.Q_apart' HO_8.out (Kd.R_typed HO_250001.out) (by decide)) (Kd.R_typed HO_250002.out) (by decide))).1 k_ e_.symm).2) hs_) (fun hs_ => fun e_ => ((((Kd.Q_apart' (Kd.Q_apart' HO_8.out (Kd.R_typed HO_250001.out) (by decide)) (Kd.R_typed HO_250002.out) (by decide))).1 k_ e_.symm).1.1) hs_))) (fun hn_ => (Kd.fresh' (Kd.Q_lt (by (with_reducible repeat (first | apply Kd.Q_alloc | apply Kd.Q_drewN | apply Kd.Q_drew)); exact HO_8.out)) k_ hn_)))); have n6_ := Aside0.mk (hb); clear HO_7; clear HO_8; clear BK249; clear HB; clear HO_250001; clear HO_250002; clear HO_250003; have HO_7 := n0_; have HO_8 := n1_; have BK249 := n2_; have HO254 := n3_; have HO257 := n4_; have HO260 := n5_; have HB := n6_; clear n0_ n1_ n2_ n3_ n4_ n5_ n6_; (try clear hb); (try clear hkp); (try clear ho0); (try clear ho1); (try clear ho2)) | ((with_reducible refine gate_dst (N := 11) rfl ?_); (try (refine gate_guard (by rfl) ?_; dsimp only)); refine box_event ?hg (N := 11) ?hd (cs := #[.int .i64 0, .slice none 0 0, .slice none 0 0, .slice none 0 0]) (t := 27) ?hr ?_; (case hd => rfl); (case hg => rfl); (case hr => first | (go_simp; done) | (go_simp; rfl)); intro gb264 hg w21 hbox hb; have n0_ := Aside0.mk (Kd.R_below (by (with_reducible repeat (first | apply Kd.R_alloc | apply Kd.R_drewN | apply Kd.R_drew)); exact HO_7.out) hb); have n1_ := Aside0.mk (Kd.Q_below (by (with_reducible repeat (first | apply Kd.Q_alloc | apply Kd.Q_drewN | apply Kd.Q_drew)); exact HO_8.out) hb); have n2_ := Aside0.mk (Kd.R_below (by (with_reducible repeat (first | apply Kd.R_alloc | apply Kd.R_drewN | apply Kd.R_drew)); exact HO254.out) hb); have n3_ := Aside0.mk (Kd.R_below (by (with_reducible repeat (first | apply Kd.R_alloc | apply Kd.R_drewN | apply Kd.R_drew)); exact HO257.out) hb); have n4_ := Aside0.mk (Kd.R_below (by (with_reducible repeat (first | apply Kd.R_alloc | apply Kd.R_drewN | apply Kd.R_drew)); exact HO260.out) hb); have n5_ := Aside0.mk (blk_below (g := gb249) (o := .cells #[.int .i64 x250000_1, .slice Ao17 x250001_1.length co17, .slice Ao18 x250002_1.length co18, .slice Ao19 x250003_1.length co19] 27 (0, 0)) (by (with_reducible repeat (first | refine blk_drewN ?_ _ | refine blk_drew ?_ | refine blk_alloc ?_ _)); exact BK249.out) hb); have n6_ := Aside0.mk (below_step (by repeat (first | (with_reducible first | exact HB.out | apply below_alloc | apply pw_below_drewN | apply below_drew1 | refine below_set ?_ GE249.out) | exact HB.out)) hb); have n7_ := Aside0.mk (hbox); have n8_ := Aside0.mk ((by rw [hg]; exact (below_size (by repeat (first | (with_reducible first | exact HB.out | apply below_alloc | apply pw_below_drewN | apply below_drew1 | refine below_set ?_ GE249.out) | exact HB.out))) : w.heap.size ≤ gb264)); have n9_ := Aside0.mk ((by rw [hg]; exact (below_size (by repeat (first | (with_reducible first | exact HB.out | apply below_alloc | apply pw_below_drewN | apply below_drew1 | refine below_set ?_ GE249.out) | exact HB.out))) : w.heap.size ≤ gb264)); have n10_ := Aside0.mk ((by rw [hg]; exact Nat.ne_of_lt (blk_lt (g := gb249) (o := .cells #[.int .i64 x250000_1, .slice Ao17 x250001_1.length co17, .slice Ao18 x250002_1.length co18, .slice Ao19 x250003_1.length co19] 27 (0, 0)) (by (with_reducible repeat (first | refine blk_drewN ?_ _ | refine blk_drew ?_ | refine blk_alloc ?_ _)); exact BK249.out)) : gb249 ≠ gb264)); have n11_ := Aside0.mk ((by rw [hg]; exact Nat.ne_of_gt (blk_lt (g := gb249) (o := .cells #[.int .i64 x250000_1, .slice Ao17 x250001_1.length co17, .slice Ao18 x250002_1.length co18, .slice Ao19 x250003_1.length co19] 27 (0, 0)) (by (with_reducible repeat (first | refine blk_drewN ?_ _ | refine blk_drew ?_ | refine blk_alloc ?_ _)); exact BK249.out)) : gb264 ≠ gb249)); clear HO_7; clear HO_8; clear HO254; clear HO257; clear HO260; clear BK249; clear HB; have HO_7 := n0_; have HO_8 := n1_; have HO254 := n2_; have HO257 := n3_; have HO260 := n4_; have BK249 := n5_; have HB := n6_; have BK264 := n7_; have GW264 := n8_; have GE264 := n9_; have NB249_264 := n10_; have NB264_249 := n11_; clear n0_ n1_ n2_ n3_ n4_ n5_ n6_ n7_ n8_ n9_ n10_ n11_; clear hb hbox hg; have hnb22 := NB264_249.out; have hnc22 := NB249_264.out; have hcz23_0 : w21.cell? ⟨gb264, 0, none⟩ = some (.int .i64 0) := (blk_cell BK264.out 0).trans rfl; have hcz23_1 : w21.cell? ⟨gb264, 1, none⟩ = some (.slice none 0 0) := (blk_cell BK264.out 1).trans rfl; have hcz23_2 : w21.cell? ⟨gb264, 2, none⟩ = some (.slice none 0 0) := (blk_cell BK264.out 2).trans rfl; have hcz23_3 : w21.cell? ⟨gb264, 3, none⟩ = some (.slice none 0 0) := (blk_cell BK264.out 3).trans rfl; have hfz23_0 := blk_frozen BK264.out 0; have hfz23_1 := blk_frozen BK264.out 1; have hfz23_2 := blk_frozen BK264.out 2; have hfz23_3 := blk_frozen BK264.out 3; obtain ⟨Ao24, co24, eo24⟩ := Kd.R_slice HO254.out; subst eo24; obtain ⟨Ao25, co25, eo25⟩ := Kd.R_slice HO257.out; subst eo25; obtain ⟨Ao26, co26, eo26⟩ := Kd.R_slice HO260.out; subst eo26; have hcz27_0 : w21.cell? ⟨gb249, 0, none⟩ = some (.int .i64 x250000_1) := (blk_cell BK249.out 0).trans rfl; have hcz27_1 : w21.cell? ⟨gb249, 1, none⟩ = some (.slice Ao17 x250001_1.length co17) := (blk_cell BK249.out 1).trans rfl; have hcz27_2 : w21.cell? ⟨gb249, 2, none⟩ = some (.slice Ao18 x250002_1.length co18) := (blk_cell BK249.out 2).trans rfl; have hcz27_3 : w21.cell? ⟨gb249, 3, none⟩ = some (.slice Ao19 x250003_1.length co19) := (blk_cell BK249.out 3).trans rfl; have hfz27_0 := blk_frozen BK249.out 0; have hfz27_1 := blk_frozen BK249.out 1; have hfz27_2 := blk_frozen BK249.out 2; have hfz27_3 := blk_frozen BK249.out 3))
                    (try simp only [Act.put, List.setIfInBounds_toArray, List.set_cons_zero, List.set_cons_succ])
                    go_cut [64] (fun v64 wc => ∃ (kq : Nat) (x64_14 : Bool), v64 = .bool x64_14 ∧ Aside0 (catafalquelaw11_BoxPlays.j2 kq l1 t248 x7_1 x8_1 x9_1 x10_1 t263 x64_14 t251 t252 t255 t258 = some r) ∧ Aside0 (kq ≤ kj6) ∧ Aside0 (Kd.R (Kd.int .i64) 2 wc w.heap.size (fun k_ => some k_ ≠ ((.slice Ao24 t252.length co24) : Value).ownBlock ∧ some k_ ≠ ((.slice Ao24 t252.length co24) : Value).ownBlock) u7 x7_1) ∧ Aside0 (Kd.Q (Kd.int .i64) 3 wc w.heap.size (fun k_ => some k_ ≠ ((.slice Ao26 t258.length co26) : Value).ownBlock ∧ some k_ ≠ ((.slice Ao26 t258.length co26) : Value).ownBlock) u8 x8_1) ∧ Aside0 (Kd.R (Kd.int .i64) 2 wc w.heap.size (fun k_ => some k_ ≠ (u7 : Value).ownBlock) (.slice Ao24 t252.length co24) t252) ∧ Aside0 (Kd.R k65 65 wc w.heap.size (fun _ => True) (.slice Ao25 t255.length co25) t255) ∧ Aside0 (Kd.R (Kd.int .i64) 3 wc w.heap.size (fun k_ => some k_ ≠ (u8 : Value).ownBlock) (.slice Ao26 t258.length co26) t258) ∧ Aside0 (Kd.R (Kd.int .i64) 2 wc w.heap.size (fun k_ => some k_ ≠ (u7 : Value).ownBlock) (.slice Ao24 t252.length co24) t252) ∧ Aside0 (Kd.R k65 65 wc w.heap.size (fun _ => True) (.slice Ao25 t255.length co25) t255) ∧ Aside0 (Kd.R (Kd.int .i64) 3 wc w.heap.size (fun k_ => some k_ ≠ (u8 : Value).ownBlock) (.slice Ao26 t258.length co26) t258) ∧ Aside0 (wc.heap[gb249]? = some (.cells #[.int .i64 t251, (.slice Ao24 t252.length co24), (.slice Ao25 t255.length co25), (.slice Ao26 t258.length co26)] 27 (0, 0))) ∧ Aside0 (wc.heap[gb264]? = some (.cells #[.int .i64 t251, (.slice Ao24 t252.length co24), (.slice Ao25 t255.length co25), (.slice Ao26 t258.length co26)] 27 (0, 0))) ∧ Aside0 (Below w.heap.size w wc))
                    case first =>
                      have H := HC15.out
                      clear HC15
                      by_cases c28 : (t263 != (decide (x9_1 < (x7_1.length : Int)))) = true
                      · rw [if_pos c28] at H
                        have c28b0 : (t263 != (decide (x9_1 < (x7_1.length : Int)))) = true := c28
                        (try (have c28b1 : decide (t263 = (decide (x9_1 < (x7_1.length : Int)))) = false := by simpa using c28))
                        (try (have c28b2 : (t263 == (decide (x9_1 < (x7_1.length : Int)))) = false := by simpa using c28))
                        (try (have c28b3 : ¬ (t263 = (decide (x9_1 < (x7_1.length : Int)))) := by simpa using c28))
                        clear c28
                        (first | rw [c28b0] | (simp only [i64_w, i32_w]; rw [c28b0]) | skip)
                        have H' := Aside0.mk H
                        clear H
                        obtain ⟨Ao29, co29, eo29⟩ := Kd.R_slice HO_7.out
                        subst eo29
                        go_wp2
                        go_meet
                        case rel => exact ⟨_, (true), (by first | rfl | (simp; done) | (simp [*]; done)), H', ⟨by have := HK1.out; have := HJ6.out; first | omega | exact Nat.le_refl _⟩, ⟨by (with_reducible repeat (first | apply Kd.R_alloc | apply Kd.R_drewN | apply Kd.R_drew)); exact Kd.R_mono (Kd.R_far (p := ⟨gb249, 3, none⟩) (Kd.R_far (p := ⟨gb249, 2, none⟩) (Kd.R_far (p := ⟨gb249, 1, none⟩) (Kd.R_far (p := ⟨gb249, 0, none⟩) (Kd.R_far (p := ⟨gb264, 3, none⟩) (Kd.R_far (p := ⟨gb264, 2, none⟩) (Kd.R_far (p := ⟨gb264, 1, none⟩) (Kd.R_far (p := ⟨gb264, 0, none⟩) (Kd.R_types (Kd.R_types HO_7.out BK264.out (by decide)) BK249.out (by decide)) (fun _ hk => hk.1.2) (.int .i64 t251)) (fun _ hk => hk.1.2) (.slice Ao24 t252.length co24)) (fun _ hk => hk.1.2) (.slice Ao25 t255.length co25)) (fun _ hk => hk.1.2) (.slice Ao26 t258.length co26)) (fun _ hk => hk.2) (.int .i64 t251)) (fun _ hk => hk.2) (.slice Ao24 t252.length co24)) (fun _ hk => hk.2) (.slice Ao25 t255.length co25)) (fun _ hk => hk.2) (.slice Ao26 t258.length co26)) (fun _ hk => ⟨hk.1.1, hk.1.1⟩)⟩, ⟨by (with_reducible repeat (first | apply Kd.Q_alloc | apply Kd.Q_drewN | apply Kd.Q_drew)); exact Kd.Q_mono (Kd.Q_far (p := ⟨gb249, 3, none⟩) (Kd.Q_far (p := ⟨gb249, 2, none⟩) (Kd.Q_far (p := ⟨gb249, 1, none⟩) (Kd.Q_far (p := ⟨gb249, 0, none⟩) (Kd.Q_far (p := ⟨gb264, 3, none⟩) (Kd.Q_far (p := ⟨gb264, 2, none⟩) (Kd.Q_far (p := ⟨gb264, 1, none⟩) (Kd.Q_far (p := ⟨gb264, 0, none⟩) (Kd.Q_types (Kd.Q_types HO_8.out BK264.out (by decide)) BK249.out (by decide)) (fun _ hk => hk.1.2) (.int .i64 t251)) (fun _ hk => hk.1.2) (.slice Ao24 t252.length co24)) (fun _ hk => hk.1.2) (.slice Ao25 t255.length co25)) (fun _ hk => hk.1.2) (.slice Ao26 t258.length co26)) (fun _ hk => hk.2) (.int .i64 t251)) (fun _ hk => hk.2) (.slice Ao24 t252.length co24)) (fun _ hk => hk.2) (.slice Ao25 t255.length co25)) (fun _ hk => hk.2) (.slice Ao26 t258.length co26)) (fun _ hk => ⟨hk.1.1, hk.1.1⟩)⟩, ⟨by (with_reducible repeat (first | apply Kd.R_alloc | apply Kd.R_drewN | apply Kd.R_drew)); exact Kd.R_mono (Kd.R_far (p := ⟨gb249, 3, none⟩) (Kd.R_far (p := ⟨gb249, 2, none⟩) (Kd.R_far (p := ⟨gb249, 1, none⟩) (Kd.R_far (p := ⟨gb249, 0, none⟩) (Kd.R_far (p := ⟨gb264, 3, none⟩) (Kd.R_far (p := ⟨gb264, 2, none⟩) (Kd.R_far (p := ⟨gb264, 1, none⟩) (Kd.R_far (p := ⟨gb264, 0, none⟩) (Kd.R_types (Kd.R_types HO254.out BK264.out (by decide)) BK249.out (by decide)) (fun _ hk => hk.1.2) (.int .i64 t251)) (fun _ hk => hk.1.2) (.slice Ao24 t252.length co24)) (fun _ hk => hk.1.2) (.slice Ao25 t255.length co25)) (fun _ hk => hk.1.2) (.slice Ao26 t258.length co26)) (fun _ hk => hk.2) (.int .i64 t251)) (fun _ hk => hk.2) (.slice Ao24 t252.length co24)) (fun _ hk => hk.2) (.slice Ao25 t255.length co25)) (fun _ hk => hk.2) (.slice Ao26 t258.length co26)) (fun _ hk => hk.1.1)⟩, ⟨by (with_reducible repeat (first | apply Kd.R_alloc | apply Kd.R_drewN | apply Kd.R_drew)); exact Kd.R_mono (Kd.R_far (p := ⟨gb249, 3, none⟩) (Kd.R_far (p := ⟨gb249, 2, none⟩) (Kd.R_far (p := ⟨gb249, 1, none⟩) (Kd.R_far (p := ⟨gb249, 0, none⟩) (Kd.R_far (p := ⟨gb264, 3, none⟩) (Kd.R_far (p := ⟨gb264, 2, none⟩) (Kd.R_far (p := ⟨gb264, 1, none⟩) (Kd.R_far (p := ⟨gb264, 0, none⟩) (Kd.R_types (Kd.R_types HO257.out BK264.out (by decide)) BK249.out (by decide)) (fun _ hk => hk.1.2) (.int .i64 t251)) (fun _ hk => hk.1.2) (.slice Ao24 t252.length co24)) (fun _ hk => hk.1.2) (.slice Ao25 t255.length co25)) (fun _ hk => hk.1.2) (.slice Ao26 t258.length co26)) (fun _ hk => hk.2) (.int .i64 t251)) (fun _ hk => hk.2) (.slice Ao24 t252.length co24)) (fun _ hk => hk.2) (.slice Ao25 t255.length co25)) (fun _ hk => hk.2) (.slice Ao26 t258.length co26)) (fun _ hk => trivial)⟩, ⟨by (with_reducible repeat (first | apply Kd.R_alloc | apply Kd.R_drewN | apply Kd.R_drew)); exact Kd.R_mono (Kd.R_far (p := ⟨gb249, 3, none⟩) (Kd.R_far (p := ⟨gb249, 2, none⟩) (Kd.R_far (p := ⟨gb249, 1, none⟩) (Kd.R_far (p := ⟨gb249, 0, none⟩) (Kd.R_far (p := ⟨gb264, 3, none⟩) (Kd.R_far (p := ⟨gb264, 2, none⟩) (Kd.R_far (p := ⟨gb264, 1, none⟩) (Kd.R_far (p := ⟨gb264, 0, none⟩) (Kd.R_types (Kd.R_types HO260.out BK264.out (by decide)) BK249.out (by decide)) (fun _ hk => hk.1.2) (.int .i64 t251)) (fun _ hk => hk.1.2) (.slice Ao24 t252.length co24)) (fun _ hk => hk.1.2) (.slice Ao25 t255.length co25)) (fun _ hk => hk.1.2) (.slice Ao26 t258.length co26)) (fun _ hk => hk.2) (.int .i64 t251)) (fun _ hk => hk.2) (.slice Ao24 t252.length co24)) (fun _ hk => hk.2) (.slice Ao25 t255.length co25)) (fun _ hk => hk.2) (.slice Ao26 t258.length co26)) (fun _ hk => hk.1.1)⟩, ⟨by (with_reducible repeat (first | apply Kd.R_alloc | apply Kd.R_drewN | apply Kd.R_drew)); exact Kd.R_mono (Kd.R_far (p := ⟨gb249, 3, none⟩) (Kd.R_far (p := ⟨gb249, 2, none⟩) (Kd.R_far (p := ⟨gb249, 1, none⟩) (Kd.R_far (p := ⟨gb249, 0, none⟩) (Kd.R_far (p := ⟨gb264, 3, none⟩) (Kd.R_far (p := ⟨gb264, 2, none⟩) (Kd.R_far (p := ⟨gb264, 1, none⟩) (Kd.R_far (p := ⟨gb264, 0, none⟩) (Kd.R_types (Kd.R_types HO254.out BK264.out (by decide)) BK249.out (by decide)) (fun _ hk => hk.1.2) (.int .i64 t251)) (fun _ hk => hk.1.2) (.slice Ao24 t252.length co24)) (fun _ hk => hk.1.2) (.slice Ao25 t255.length co25)) (fun _ hk => hk.1.2) (.slice Ao26 t258.length co26)) (fun _ hk => hk.2) (.int .i64 t251)) (fun _ hk => hk.2) (.slice Ao24 t252.length co24)) (fun _ hk => hk.2) (.slice Ao25 t255.length co25)) (fun _ hk => hk.2) (.slice Ao26 t258.length co26)) (fun _ hk => hk.1.1)⟩, ⟨by (with_reducible repeat (first | apply Kd.R_alloc | apply Kd.R_drewN | apply Kd.R_drew)); exact Kd.R_mono (Kd.R_far (p := ⟨gb249, 3, none⟩) (Kd.R_far (p := ⟨gb249, 2, none⟩) (Kd.R_far (p := ⟨gb249, 1, none⟩) (Kd.R_far (p := ⟨gb249, 0, none⟩) (Kd.R_far (p := ⟨gb264, 3, none⟩) (Kd.R_far (p := ⟨gb264, 2, none⟩) (Kd.R_far (p := ⟨gb264, 1, none⟩) (Kd.R_far (p := ⟨gb264, 0, none⟩) (Kd.R_types (Kd.R_types HO257.out BK264.out (by decide)) BK249.out (by decide)) (fun _ hk => hk.1.2) (.int .i64 t251)) (fun _ hk => hk.1.2) (.slice Ao24 t252.length co24)) (fun _ hk => hk.1.2) (.slice Ao25 t255.length co25)) (fun _ hk => hk.1.2) (.slice Ao26 t258.length co26)) (fun _ hk => hk.2) (.int .i64 t251)) (fun _ hk => hk.2) (.slice Ao24 t252.length co24)) (fun _ hk => hk.2) (.slice Ao25 t255.length co25)) (fun _ hk => hk.2) (.slice Ao26 t258.length co26)) (fun _ hk => trivial)⟩, ⟨by (with_reducible repeat (first | apply Kd.R_alloc | apply Kd.R_drewN | apply Kd.R_drew)); exact Kd.R_mono (Kd.R_far (p := ⟨gb249, 3, none⟩) (Kd.R_far (p := ⟨gb249, 2, none⟩) (Kd.R_far (p := ⟨gb249, 1, none⟩) (Kd.R_far (p := ⟨gb249, 0, none⟩) (Kd.R_far (p := ⟨gb264, 3, none⟩) (Kd.R_far (p := ⟨gb264, 2, none⟩) (Kd.R_far (p := ⟨gb264, 1, none⟩) (Kd.R_far (p := ⟨gb264, 0, none⟩) (Kd.R_types (Kd.R_types HO260.out BK264.out (by decide)) BK249.out (by decide)) (fun _ hk => hk.1.2) (.int .i64 t251)) (fun _ hk => hk.1.2) (.slice Ao24 t252.length co24)) (fun _ hk => hk.1.2) (.slice Ao25 t255.length co25)) (fun _ hk => hk.1.2) (.slice Ao26 t258.length co26)) (fun _ hk => hk.2) (.int .i64 t251)) (fun _ hk => hk.2) (.slice Ao24 t252.length co24)) (fun _ hk => hk.2) (.slice Ao25 t255.length co25)) (fun _ hk => hk.2) (.slice Ao26 t258.length co26)) (fun _ hk => hk.1.1)⟩, ⟨by (with_reducible repeat (first | refine blk_drewN ?_ _ | refine blk_drew ?_ | refine blk_alloc ?_ _)); refine blk_put (cs := #[.int .i64 t251, .slice Ao24 t252.length co24, .slice Ao25 t255.length co25, .slice Ao19 x250003_1.length co19]) ?_ 3 _ rfl; (with_reducible repeat (first | refine blk_drewN ?_ _ | refine blk_drew ?_ | refine blk_alloc ?_ _)); refine blk_put (cs := #[.int .i64 t251, .slice Ao24 t252.length co24, .slice Ao18 x250002_1.length co18, .slice Ao19 x250003_1.length co19]) ?_ 2 _ rfl; (with_reducible repeat (first | refine blk_drewN ?_ _ | refine blk_drew ?_ | refine blk_alloc ?_ _)); refine blk_put (cs := #[.int .i64 t251, .slice Ao17 x250001_1.length co17, .slice Ao18 x250002_1.length co18, .slice Ao19 x250003_1.length co19]) ?_ 1 _ rfl; (with_reducible repeat (first | refine blk_drewN ?_ _ | refine blk_drew ?_ | refine blk_alloc ?_ _)); refine blk_put (cs := #[.int .i64 x250000_1, .slice Ao17 x250001_1.length co17, .slice Ao18 x250002_1.length co18, .slice Ao19 x250003_1.length co19]) ?_ 0 _ rfl; (with_reducible repeat (first | refine blk_drewN ?_ _ | refine blk_drew ?_ | refine blk_alloc ?_ _)); refine blk_far ?_ NB249_264.out _; (with_reducible repeat (first | refine blk_drewN ?_ _ | refine blk_drew ?_ | refine blk_alloc ?_ _)); refine blk_far ?_ NB249_264.out _; (with_reducible repeat (first | refine blk_drewN ?_ _ | refine blk_drew ?_ | refine blk_alloc ?_ _)); refine blk_far ?_ NB249_264.out _; (with_reducible repeat (first | refine blk_drewN ?_ _ | refine blk_drew ?_ | refine blk_alloc ?_ _)); refine blk_far ?_ NB249_264.out _; (with_reducible repeat (first | refine blk_drewN ?_ _ | refine blk_drew ?_ | refine blk_alloc ?_ _)); exact BK249.out⟩, ⟨by (with_reducible repeat (first | refine blk_drewN ?_ _ | refine blk_drew ?_ | refine blk_alloc ?_ _)); refine blk_far ?_ NB264_249.out _; (with_reducible repeat (first | refine blk_drewN ?_ _ | refine blk_drew ?_ | refine blk_alloc ?_ _)); refine blk_far ?_ NB264_249.out _; (with_reducible repeat (first | refine blk_drewN ?_ _ | refine blk_drew ?_ | refine blk_alloc ?_ _)); refine blk_far ?_ NB264_249.out _; (with_reducible repeat (first | refine blk_drewN ?_ _ | refine blk_drew ?_ | refine blk_alloc ?_ _)); refine blk_far ?_ NB264_249.out _; (with_reducible repeat (first | refine blk_drewN ?_ _ | refine blk_drew ?_ | refine blk_alloc ?_ _)); refine blk_put (cs := #[.int .i64 t251, .slice Ao24 t252.length co24, .slice Ao25 t255.length co25, .slice none 0 0]) ?_ 3 _ rfl; (with_reducible repeat (first | refine blk_drewN ?_ _ | refine blk_drew ?_ | refine blk_alloc ?_ _)); refine blk_put (cs := #[.int .i64 t251, .slice Ao24 t252.length co24, .slice none 0 0, .slice none 0 0]) ?_ 2 _ rfl; (with_reducible repeat (first | refine blk_drewN ?_ _ | refine blk_drew ?_ | refine blk_alloc ?_ _)); refine blk_put (cs := #[.int .i64 t251, .slice none 0 0, .slice none 0 0, .slice none 0 0]) ?_ 1 _ rfl; (with_reducible repeat (first | refine blk_drewN ?_ _ | refine blk_drew ?_ | refine blk_alloc ?_ _)); refine blk_put (cs := #[.int .i64 0, .slice none 0 0, .slice none 0 0, .slice none 0 0]) ?_ 0 _ rfl; (with_reducible repeat (first | refine blk_drewN ?_ _ | refine blk_drew ?_ | refine blk_alloc ?_ _)); exact BK264.out⟩, ⟨by repeat (first | (with_reducible first | exact HB.out | apply below_alloc | apply pw_below_drewN | apply below_drew1 | refine below_set ?_ GE249.out | refine below_set ?_ GE264.out) | exact HB.out)⟩⟩
                      · rw [if_neg c28] at H
                        have c28b0 : (t263 != (decide (x9_1 < (x7_1.length : Int)))) = false := by simpa using c28
                        (try (have c28b1 : decide (t263 = (decide (x9_1 < (x7_1.length : Int)))) = true := by simpa using c28))
                        (try (have c28b2 : (t263 == (decide (x9_1 < (x7_1.length : Int)))) = true := by simpa using c28))
                        clear c28
                        (first | rw [c28b0] | (simp only [i64_w, i32_w]; rw [c28b0]) | skip)
                        by_cases c30 : t263 = true
                        · subst c30
                          have H1 : (if 0 ≤ x9_1 then (if x9_1 < (x7_1.length : Int) then (catafalquelaw11_BoxPlays.j2 kj6 l1 t248 x7_1 x8_1 x9_1 x10_1 true (t261 != (rd x7_1 x9_1)) t251 t252 t255 t258) else (none)) else (none)) = some r := by rw [if_pos rfl] at H; exact H
                          clear H
                          have H := H1
                          clear H1
                          by_cases c31 : 0 ≤ x9_1
                          · rw [if_pos c31] at H
                            have c31b0 : decide (0 ≤ x9_1) = true := decide_eq_true c31
                            clear c31
                            by_cases c32 : x9_1 < (x7_1.length : Int)
                            · rw [if_pos c32] at H
                              have c32b0 : decide (x9_1 < (x7_1.length : Int)) = true := decide_eq_true c32
                              clear c32
                              have H' := Aside0.mk H
                              clear H
                              obtain ⟨Ao33, co33, eo33⟩ := Kd.R_slice HO_7.out
                              subst eo33
                              have p265 : 0 ≤ (x9_1 : Int) := of_decide_eq_true (by first | (with_reducible assumption) | assumption)
                              have q265 : x9_1 < (x7_1.length : Int) := of_decide_eq_true (by first | (with_reducible assumption) | assumption)
                              obtain ⟨ad265, e265, hx265_0⟩ := Kd.at_int (Kd.R_reads' HO_7.out).2.2 x9_1 p265 q265
                              cases e265
                              have hn265_0 : ad265.block ≠ gb264 := Kd.own_blk (Kd.R_ne HO_7.out BK264.out (by decide))
                              have hn265_1 : ad265.block ≠ gb264 := Kd.own_blk (Kd.R_ne HO_7.out BK264.out (by decide))
                              have hn265_2 : ad265.block ≠ gb264 := Kd.own_blk (Kd.R_ne HO_7.out BK264.out (by decide))
                              have hn265_3 : ad265.block ≠ gb264 := Kd.own_blk (Kd.R_ne HO_7.out BK264.out (by decide))
                              have hn265_4 : ad265.block ≠ gb249 := Kd.own_blk (Kd.R_ne HO_7.out BK249.out (by decide))
                              have hn265_5 : ad265.block ≠ gb249 := Kd.own_blk (Kd.R_ne HO_7.out BK249.out (by decide))
                              have hn265_6 : ad265.block ≠ gb249 := Kd.own_blk (Kd.R_ne HO_7.out BK249.out (by decide))
                              have hn265_7 : ad265.block ≠ gb249 := Kd.own_blk (Kd.R_ne HO_7.out BK249.out (by decide))
                              replace hx265_0 := (cell_far (p := ⟨gb264, 0, none⟩) (by first | (rw [add_block]; exact hn265_0) | (show (Addr.add _ _).block ≠ _; rw [add_block]; exact hn265_0) | exact hn265_0) (.int .i64 t251)).trans hx265_0
                              replace hx265_0 := (cell_far (p := ⟨gb264, 1, none⟩) (by first | (rw [add_block]; exact hn265_1) | (show (Addr.add _ _).block ≠ _; rw [add_block]; exact hn265_1) | exact hn265_1) (.slice Ao24 t252.length co24)).trans hx265_0
                              replace hx265_0 := (cell_far (p := ⟨gb264, 2, none⟩) (by first | (rw [add_block]; exact hn265_2) | (show (Addr.add _ _).block ≠ _; rw [add_block]; exact hn265_2) | exact hn265_2) (.slice Ao25 t255.length co25)).trans hx265_0
                              replace hx265_0 := (cell_far (p := ⟨gb264, 3, none⟩) (by first | (rw [add_block]; exact hn265_3) | (show (Addr.add _ _).block ≠ _; rw [add_block]; exact hn265_3) | exact hn265_3) (.slice Ao26 t258.length co26)).trans hx265_0
                              replace hx265_0 := (cell_far (p := ⟨gb249, 0, none⟩) (by first | (rw [add_block]; exact hn265_4) | (show (Addr.add _ _).block ≠ _; rw [add_block]; exact hn265_4) | exact hn265_4) (.int .i64 t251)).trans hx265_0
                              replace hx265_0 := (cell_far (p := ⟨gb249, 1, none⟩) (by first | (rw [add_block]; exact hn265_5) | (show (Addr.add _ _).block ≠ _; rw [add_block]; exact hn265_5) | exact hn265_5) (.slice Ao24 t252.length co24)).trans hx265_0
                              replace hx265_0 := (cell_far (p := ⟨gb249, 2, none⟩) (by first | (rw [add_block]; exact hn265_6) | (show (Addr.add _ _).block ≠ _; rw [add_block]; exact hn265_6) | exact hn265_6) (.slice Ao25 t255.length co25)).trans hx265_0
                              replace hx265_0 := (cell_far (p := ⟨gb249, 3, none⟩) (by first | (rw [add_block]; exact hn265_7) | (show (Addr.add _ _).block ≠ _; rw [add_block]; exact hn265_7) | exact hn265_7) (.slice Ao26 t258.length co26)).trans hx265_0
                              clear hn265_0
                              clear hn265_1
                              clear hn265_2
                              clear hn265_3
                              clear hn265_4
                              clear hn265_5
                              clear hn265_6
                              clear hn265_7
                              replace p265 := eq_true p265
                              replace q265 := eq_true q265
                              go_wp2
                              go_meet
                              case rel => exact ⟨_, ((t261 != (rd x7_1 x9_1))), (by first | rfl | (simp; done) | (simp [*]; done)), H', ⟨by have := HK1.out; have := HJ6.out; first | omega | exact Nat.le_refl _⟩, ⟨by (with_reducible repeat (first | apply Kd.R_alloc | apply Kd.R_drewN | apply Kd.R_drew)); exact Kd.R_mono (Kd.R_far (p := ⟨gb249, 3, none⟩) (Kd.R_far (p := ⟨gb249, 2, none⟩) (Kd.R_far (p := ⟨gb249, 1, none⟩) (Kd.R_far (p := ⟨gb249, 0, none⟩) (Kd.R_far (p := ⟨gb264, 3, none⟩) (Kd.R_far (p := ⟨gb264, 2, none⟩) (Kd.R_far (p := ⟨gb264, 1, none⟩) (Kd.R_far (p := ⟨gb264, 0, none⟩) (Kd.R_types (Kd.R_types HO_7.out BK264.out (by decide)) BK249.out (by decide)) (fun _ hk => hk.1.2) (.int .i64 t251)) (fun _ hk => hk.1.2) (.slice Ao24 t252.length co24)) (fun _ hk => hk.1.2) (.slice Ao25 t255.length co25)) (fun _ hk => hk.1.2) (.slice Ao26 t258.length co26)) (fun _ hk => hk.2) (.int .i64 t251)) (fun _ hk => hk.2) (.slice Ao24 t252.length co24)) (fun _ hk => hk.2) (.slice Ao25 t255.length co25)) (fun _ hk => hk.2) (.slice Ao26 t258.length co26)) (fun _ hk => ⟨hk.1.1, hk.1.1⟩)⟩, ⟨by (with_reducible repeat (first | apply Kd.Q_alloc | apply Kd.Q_drewN | apply Kd.Q_drew)); exact Kd.Q_mono (Kd.Q_far (p := ⟨gb249, 3, none⟩) (Kd.Q_far (p := ⟨gb249, 2, none⟩) (Kd.Q_far (p := ⟨gb249, 1, none⟩) (Kd.Q_far (p := ⟨gb249, 0, none⟩) (Kd.Q_far (p := ⟨gb264, 3, none⟩) (Kd.Q_far (p := ⟨gb264, 2, none⟩) (Kd.Q_far (p := ⟨gb264, 1, none⟩) (Kd.Q_far (p := ⟨gb264, 0, none⟩) (Kd.Q_types (Kd.Q_types HO_8.out BK264.out (by decide)) BK249.out (by decide)) (fun _ hk => hk.1.2) (.int .i64 t251)) (fun _ hk => hk.1.2) (.slice Ao24 t252.length co24)) (fun _ hk => hk.1.2) (.slice Ao25 t255.length co25)) (fun _ hk => hk.1.2) (.slice Ao26 t258.length co26)) (fun _ hk => hk.2) (.int .i64 t251)) (fun _ hk => hk.2) (.slice Ao24 t252.length co24)) (fun _ hk => hk.2) (.slice Ao25 t255.length co25)) (fun _ hk => hk.2) (.slice Ao26 t258.length co26)) (fun _ hk => ⟨hk.1.1, hk.1.1⟩)⟩, ⟨by (with_reducible repeat (first | apply Kd.R_alloc | apply Kd.R_drewN | apply Kd.R_drew)); exact Kd.R_mono (Kd.R_far (p := ⟨gb249, 3, none⟩) (Kd.R_far (p := ⟨gb249, 2, none⟩) (Kd.R_far (p := ⟨gb249, 1, none⟩) (Kd.R_far (p := ⟨gb249, 0, none⟩) (Kd.R_far (p := ⟨gb264, 3, none⟩) (Kd.R_far (p := ⟨gb264, 2, none⟩) (Kd.R_far (p := ⟨gb264, 1, none⟩) (Kd.R_far (p := ⟨gb264, 0, none⟩) (Kd.R_types (Kd.R_types HO254.out BK264.out (by decide)) BK249.out (by decide)) (fun _ hk => hk.1.2) (.int .i64 t251)) (fun _ hk => hk.1.2) (.slice Ao24 t252.length co24)) (fun _ hk => hk.1.2) (.slice Ao25 t255.length co25)) (fun _ hk => hk.1.2) (.slice Ao26 t258.length co26)) (fun _ hk => hk.2) (.int .i64 t251)) (fun _ hk => hk.2) (.slice Ao24 t252.length co24)) (fun _ hk => hk.2) (.slice Ao25 t255.length co25)) (fun _ hk => hk.2) (.slice Ao26 t258.length co26)) (fun _ hk => hk.1.1)⟩, ⟨by (with_reducible repeat (first | apply Kd.R_alloc | apply Kd.R_drewN | apply Kd.R_drew)); exact Kd.R_mono (Kd.R_far (p := ⟨gb249, 3, none⟩) (Kd.R_far (p := ⟨gb249, 2, none⟩) (Kd.R_far (p := ⟨gb249, 1, none⟩) (Kd.R_far (p := ⟨gb249, 0, none⟩) (Kd.R_far (p := ⟨gb264, 3, none⟩) (Kd.R_far (p := ⟨gb264, 2, none⟩) (Kd.R_far (p := ⟨gb264, 1, none⟩) (Kd.R_far (p := ⟨gb264, 0, none⟩) (Kd.R_types (Kd.R_types HO257.out BK264.out (by decide)) BK249.out (by decide)) (fun _ hk => hk.1.2) (.int .i64 t251)) (fun _ hk => hk.1.2) (.slice Ao24 t252.length co24)) (fun _ hk => hk.1.2) (.slice Ao25 t255.length co25)) (fun _ hk => hk.1.2) (.slice Ao26 t258.length co26)) (fun _ hk => hk.2) (.int .i64 t251)) (fun _ hk => hk.2) (.slice Ao24 t252.length co24)) (fun _ hk => hk.2) (.slice Ao25 t255.length co25)) (fun _ hk => hk.2) (.slice Ao26 t258.length co26)) (fun _ hk => trivial)⟩, ⟨by (with_reducible repeat (first | apply Kd.R_alloc | apply Kd.R_drewN | apply Kd.R_drew)); exact Kd.R_mono (Kd.R_far (p := ⟨gb249, 3, none⟩) (Kd.R_far (p := ⟨gb249, 2, none⟩) (Kd.R_far (p := ⟨gb249, 1, none⟩) (Kd.R_far (p := ⟨gb249, 0, none⟩) (Kd.R_far (p := ⟨gb264, 3, none⟩) (Kd.R_far (p := ⟨gb264, 2, none⟩) (Kd.R_far (p := ⟨gb264, 1, none⟩) (Kd.R_far (p := ⟨gb264, 0, none⟩) (Kd.R_types (Kd.R_types HO260.out BK264.out (by decide)) BK249.out (by decide)) (fun _ hk => hk.1.2) (.int .i64 t251)) (fun _ hk => hk.1.2) (.slice Ao24 t252.length co24)) (fun _ hk => hk.1.2) (.slice Ao25 t255.length co25)) (fun _ hk => hk.1.2) (.slice Ao26 t258.length co26)) (fun _ hk => hk.2) (.int .i64 t251)) (fun _ hk => hk.2) (.slice Ao24 t252.length co24)) (fun _ hk => hk.2) (.slice Ao25 t255.length co25)) (fun _ hk => hk.2) (.slice Ao26 t258.length co26)) (fun _ hk => hk.1.1)⟩, ⟨by (with_reducible repeat (first | apply Kd.R_alloc | apply Kd.R_drewN | apply Kd.R_drew)); exact Kd.R_mono (Kd.R_far (p := ⟨gb249, 3, none⟩) (Kd.R_far (p := ⟨gb249, 2, none⟩) (Kd.R_far (p := ⟨gb249, 1, none⟩) (Kd.R_far (p := ⟨gb249, 0, none⟩) (Kd.R_far (p := ⟨gb264, 3, none⟩) (Kd.R_far (p := ⟨gb264, 2, none⟩) (Kd.R_far (p := ⟨gb264, 1, none⟩) (Kd.R_far (p := ⟨gb264, 0, none⟩) (Kd.R_types (Kd.R_types HO254.out BK264.out (by decide)) BK249.out (by decide)) (fun _ hk => hk.1.2) (.int .i64 t251)) (fun _ hk => hk.1.2) (.slice Ao24 t252.length co24)) (fun _ hk => hk.1.2) (.slice Ao25 t255.length co25)) (fun _ hk => hk.1.2) (.slice Ao26 t258.length co26)) (fun _ hk => hk.2) (.int .i64 t251)) (fun _ hk => hk.2) (.slice Ao24 t252.length co24)) (fun _ hk => hk.2) (.slice Ao25 t255.length co25)) (fun _ hk => hk.2) (.slice Ao26 t258.length co26)) (fun _ hk => hk.1.1)⟩, ⟨by (with_reducible repeat (first | apply Kd.R_alloc | apply Kd.R_drewN | apply Kd.R_drew)); exact Kd.R_mono (Kd.R_far (p := ⟨gb249, 3, none⟩) (Kd.R_far (p := ⟨gb249, 2, none⟩) (Kd.R_far (p := ⟨gb249, 1, none⟩) (Kd.R_far (p := ⟨gb249, 0, none⟩) (Kd.R_far (p := ⟨gb264, 3, none⟩) (Kd.R_far (p := ⟨gb264, 2, none⟩) (Kd.R_far (p := ⟨gb264, 1, none⟩) (Kd.R_far (p := ⟨gb264, 0, none⟩) (Kd.R_types (Kd.R_types HO257.out BK264.out (by decide)) BK249.out (by decide)) (fun _ hk => hk.1.2) (.int .i64 t251)) (fun _ hk => hk.1.2) (.slice Ao24 t252.length co24)) (fun _ hk => hk.1.2) (.slice Ao25 t255.length co25)) (fun _ hk => hk.1.2) (.slice Ao26 t258.length co26)) (fun _ hk => hk.2) (.int .i64 t251)) (fun _ hk => hk.2) (.slice Ao24 t252.length co24)) (fun _ hk => hk.2) (.slice Ao25 t255.length co25)) (fun _ hk => hk.2) (.slice Ao26 t258.length co26)) (fun _ hk => trivial)⟩, ⟨by (with_reducible repeat (first | apply Kd.R_alloc | apply Kd.R_drewN | apply Kd.R_drew)); exact Kd.R_mono (Kd.R_far (p := ⟨gb249, 3, none⟩) (Kd.R_far (p := ⟨gb249, 2, none⟩) (Kd.R_far (p := ⟨gb249, 1, none⟩) (Kd.R_far (p := ⟨gb249, 0, none⟩) (Kd.R_far (p := ⟨gb264, 3, none⟩) (Kd.R_far (p := ⟨gb264, 2, none⟩) (Kd.R_far (p := ⟨gb264, 1, none⟩) (Kd.R_far (p := ⟨gb264, 0, none⟩) (Kd.R_types (Kd.R_types HO260.out BK264.out (by decide)) BK249.out (by decide)) (fun _ hk => hk.1.2) (.int .i64 t251)) (fun _ hk => hk.1.2) (.slice Ao24 t252.length co24)) (fun _ hk => hk.1.2) (.slice Ao25 t255.length co25)) (fun _ hk => hk.1.2) (.slice Ao26 t258.length co26)) (fun _ hk => hk.2) (.int .i64 t251)) (fun _ hk => hk.2) (.slice Ao24 t252.length co24)) (fun _ hk => hk.2) (.slice Ao25 t255.length co25)) (fun _ hk => hk.2) (.slice Ao26 t258.length co26)) (fun _ hk => hk.1.1)⟩, ⟨by (with_reducible repeat (first | refine blk_drewN ?_ _ | refine blk_drew ?_ | refine blk_alloc ?_ _)); refine blk_put (cs := #[.int .i64 t251, .slice Ao24 t252.length co24, .slice Ao25 t255.length co25, .slice Ao19 x250003_1.length co19]) ?_ 3 _ rfl; (with_reducible repeat (first | refine blk_drewN ?_ _ | refine blk_drew ?_ | refine blk_alloc ?_ _)); refine blk_put (cs := #[.int .i64 t251, .slice Ao24 t252.length co24, .slice Ao18 x250002_1.length co18, .slice Ao19 x250003_1.length co19]) ?_ 2 _ rfl; (with_reducible repeat (first | refine blk_drewN ?_ _ | refine blk_drew ?_ | refine blk_alloc ?_ _)); refine blk_put (cs := #[.int .i64 t251, .slice Ao17 x250001_1.length co17, .slice Ao18 x250002_1.length co18, .slice Ao19 x250003_1.length co19]) ?_ 1 _ rfl; (with_reducible repeat (first | refine blk_drewN ?_ _ | refine blk_drew ?_ | refine blk_alloc ?_ _)); refine blk_put (cs := #[.int .i64 x250000_1, .slice Ao17 x250001_1.length co17, .slice Ao18 x250002_1.length co18, .slice Ao19 x250003_1.length co19]) ?_ 0 _ rfl; (with_reducible repeat (first | refine blk_drewN ?_ _ | refine blk_drew ?_ | refine blk_alloc ?_ _)); refine blk_far ?_ NB249_264.out _; (with_reducible repeat (first | refine blk_drewN ?_ _ | refine blk_drew ?_ | refine blk_alloc ?_ _)); refine blk_far ?_ NB249_264.out _; (with_reducible repeat (first | refine blk_drewN ?_ _ | refine blk_drew ?_ | refine blk_alloc ?_ _)); refine blk_far ?_ NB249_264.out _; (with_reducible repeat (first | refine blk_drewN ?_ _ | refine blk_drew ?_ | refine blk_alloc ?_ _)); refine blk_far ?_ NB249_264.out _; (with_reducible repeat (first | refine blk_drewN ?_ _ | refine blk_drew ?_ | refine blk_alloc ?_ _)); exact BK249.out⟩, ⟨by (with_reducible repeat (first | refine blk_drewN ?_ _ | refine blk_drew ?_ | refine blk_alloc ?_ _)); refine blk_far ?_ NB264_249.out _; (with_reducible repeat (first | refine blk_drewN ?_ _ | refine blk_drew ?_ | refine blk_alloc ?_ _)); refine blk_far ?_ NB264_249.out _; (with_reducible repeat (first | refine blk_drewN ?_ _ | refine blk_drew ?_ | refine blk_alloc ?_ _)); refine blk_far ?_ NB264_249.out _; (with_reducible repeat (first | refine blk_drewN ?_ _ | refine blk_drew ?_ | refine blk_alloc ?_ _)); refine blk_far ?_ NB264_249.out _; (with_reducible repeat (first | refine blk_drewN ?_ _ | refine blk_drew ?_ | refine blk_alloc ?_ _)); refine blk_put (cs := #[.int .i64 t251, .slice Ao24 t252.length co24, .slice Ao25 t255.length co25, .slice none 0 0]) ?_ 3 _ rfl; (with_reducible repeat (first | refine blk_drewN ?_ _ | refine blk_drew ?_ | refine blk_alloc ?_ _)); refine blk_put (cs := #[.int .i64 t251, .slice Ao24 t252.length co24, .slice none 0 0, .slice none 0 0]) ?_ 2 _ rfl; (with_reducible repeat (first | refine blk_drewN ?_ _ | refine blk_drew ?_ | refine blk_alloc ?_ _)); refine blk_put (cs := #[.int .i64 t251, .slice none 0 0, .slice none 0 0, .slice none 0 0]) ?_ 1 _ rfl; (with_reducible repeat (first | refine blk_drewN ?_ _ | refine blk_drew ?_ | refine blk_alloc ?_ _)); refine blk_put (cs := #[.int .i64 0, .slice none 0 0, .slice none 0 0, .slice none 0 0]) ?_ 0 _ rfl; (with_reducible repeat (first | refine blk_drewN ?_ _ | refine blk_drew ?_ | refine blk_alloc ?_ _)); exact BK264.out⟩, ⟨by repeat (first | (with_reducible first | exact HB.out | apply below_alloc | apply pw_below_drewN | apply below_drew1 | refine below_set ?_ GE249.out | refine below_set ?_ GE264.out) | exact HB.out)⟩⟩
                            · rw [if_neg c32] at H
                              exact absurd H (by simp)
                          · rw [if_neg c31] at H
                            exact absurd H (by simp)
                        · replace c30 := Bool.eq_false_iff.mpr c30
                          subst c30
                          have H1 : (catafalquelaw11_BoxPlays.j2 kj6 l1 t248 x7_1 x8_1 x9_1 x10_1 false false t251 t252 t255 t258) = some r := by rw [if_neg (show ¬ (false = true) by decide)] at H; exact H
                          clear H
                          have H := H1
                          clear H1
                          have H' := Aside0.mk H
                          clear H
                          obtain ⟨Ao34, co34, eo34⟩ := Kd.R_slice HO_7.out
                          subst eo34
                          go_wp2
                          go_meet
                          case rel => exact ⟨_, (false), (by first | rfl | (simp; done) | (simp [*]; done)), H', ⟨by have := HK1.out; have := HJ6.out; first | omega | exact Nat.le_refl _⟩, ⟨by (with_reducible repeat (first | apply Kd.R_alloc | apply Kd.R_drewN | apply Kd.R_drew)); exact Kd.R_mono (Kd.R_far (p := ⟨gb249, 3, none⟩) (Kd.R_far (p := ⟨gb249, 2, none⟩) (Kd.R_far (p := ⟨gb249, 1, none⟩) (Kd.R_far (p := ⟨gb249, 0, none⟩) (Kd.R_far (p := ⟨gb264, 3, none⟩) (Kd.R_far (p := ⟨gb264, 2, none⟩) (Kd.R_far (p := ⟨gb264, 1, none⟩) (Kd.R_far (p := ⟨gb264, 0, none⟩) (Kd.R_types (Kd.R_types HO_7.out BK264.out (by decide)) BK249.out (by decide)) (fun _ hk => hk.1.2) (.int .i64 t251)) (fun _ hk => hk.1.2) (.slice Ao24 t252.length co24)) (fun _ hk => hk.1.2) (.slice Ao25 t255.length co25)) (fun _ hk => hk.1.2) (.slice Ao26 t258.length co26)) (fun _ hk => hk.2) (.int .i64 t251)) (fun _ hk => hk.2) (.slice Ao24 t252.length co24)) (fun _ hk => hk.2) (.slice Ao25 t255.length co25)) (fun _ hk => hk.2) (.slice Ao26 t258.length co26)) (fun _ hk => ⟨hk.1.1, hk.1.1⟩)⟩, ⟨by (with_reducible repeat (first | apply Kd.Q_alloc | apply Kd.Q_drewN | apply Kd.Q_drew)); exact Kd.Q_mono (Kd.Q_far (p := ⟨gb249, 3, none⟩) (Kd.Q_far (p := ⟨gb249, 2, none⟩) (Kd.Q_far (p := ⟨gb249, 1, none⟩) (Kd.Q_far (p := ⟨gb249, 0, none⟩) (Kd.Q_far (p := ⟨gb264, 3, none⟩) (Kd.Q_far (p := ⟨gb264, 2, none⟩) (Kd.Q_far (p := ⟨gb264, 1, none⟩) (Kd.Q_far (p := ⟨gb264, 0, none⟩) (Kd.Q_types (Kd.Q_types HO_8.out BK264.out (by decide)) BK249.out (by decide)) (fun _ hk => hk.1.2) (.int .i64 t251)) (fun _ hk => hk.1.2) (.slice Ao24 t252.length co24)) (fun _ hk => hk.1.2) (.slice Ao25 t255.length co25)) (fun _ hk => hk.1.2) (.slice Ao26 t258.length co26)) (fun _ hk => hk.2) (.int .i64 t251)) (fun _ hk => hk.2) (.slice Ao24 t252.length co24)) (fun _ hk => hk.2) (.slice Ao25 t255.length co25)) (fun _ hk => hk.2) (.slice Ao26 t258.length co26)) (fun _ hk => ⟨hk.1.1, hk.1.1⟩)⟩, ⟨by (with_reducible repeat (first | apply Kd.R_alloc | apply Kd.R_drewN | apply Kd.R_drew)); exact Kd.R_mono (Kd.R_far (p := ⟨gb249, 3, none⟩) (Kd.R_far (p := ⟨gb249, 2, none⟩) (Kd.R_far (p := ⟨gb249, 1, none⟩) (Kd.R_far (p := ⟨gb249, 0, none⟩) (Kd.R_far (p := ⟨gb264, 3, none⟩) (Kd.R_far (p := ⟨gb264, 2, none⟩) (Kd.R_far (p := ⟨gb264, 1, none⟩) (Kd.R_far (p := ⟨gb264, 0, none⟩) (Kd.R_types (Kd.R_types HO254.out BK264.out (by decide)) BK249.out (by decide)) (fun _ hk => hk.1.2) (.int .i64 t251)) (fun _ hk => hk.1.2) (.slice Ao24 t252.length co24)) (fun _ hk => hk.1.2) (.slice Ao25 t255.length co25)) (fun _ hk => hk.1.2) (.slice Ao26 t258.length co26)) (fun _ hk => hk.2) (.int .i64 t251)) (fun _ hk => hk.2) (.slice Ao24 t252.length co24)) (fun _ hk => hk.2) (.slice Ao25 t255.length co25)) (fun _ hk => hk.2) (.slice Ao26 t258.length co26)) (fun _ hk => hk.1.1)⟩, ⟨by (with_reducible repeat (first | apply Kd.R_alloc | apply Kd.R_drewN | apply Kd.R_drew)); exact Kd.R_mono (Kd.R_far (p := ⟨gb249, 3, none⟩) (Kd.R_far (p := ⟨gb249, 2, none⟩) (Kd.R_far (p := ⟨gb249, 1, none⟩) (Kd.R_far (p := ⟨gb249, 0, none⟩) (Kd.R_far (p := ⟨gb264, 3, none⟩) (Kd.R_far (p := ⟨gb264, 2, none⟩) (Kd.R_far (p := ⟨gb264, 1, none⟩) (Kd.R_far (p := ⟨gb264, 0, none⟩) (Kd.R_types (Kd.R_types HO257.out BK264.out (by decide)) BK249.out (by decide)) (fun _ hk => hk.1.2) (.int .i64 t251)) (fun _ hk => hk.1.2) (.slice Ao24 t252.length co24)) (fun _ hk => hk.1.2) (.slice Ao25 t255.length co25)) (fun _ hk => hk.1.2) (.slice Ao26 t258.length co26)) (fun _ hk => hk.2) (.int .i64 t251)) (fun _ hk => hk.2) (.slice Ao24 t252.length co24)) (fun _ hk => hk.2) (.slice Ao25 t255.length co25)) (fun _ hk => hk.2) (.slice Ao26 t258.length co26)) (fun _ hk => trivial)⟩, ⟨by (with_reducible repeat (first | apply Kd.R_alloc | apply Kd.R_drewN | apply Kd.R_drew)); exact Kd.R_mono (Kd.R_far (p := ⟨gb249, 3, none⟩) (Kd.R_far (p := ⟨gb249, 2, none⟩) (Kd.R_far (p := ⟨gb249, 1, none⟩) (Kd.R_far (p := ⟨gb249, 0, none⟩) (Kd.R_far (p := ⟨gb264, 3, none⟩) (Kd.R_far (p := ⟨gb264, 2, none⟩) (Kd.R_far (p := ⟨gb264, 1, none⟩) (Kd.R_far (p := ⟨gb264, 0, none⟩) (Kd.R_types (Kd.R_types HO260.out BK264.out (by decide)) BK249.out (by decide)) (fun _ hk => hk.1.2) (.int .i64 t251)) (fun _ hk => hk.1.2) (.slice Ao24 t252.length co24)) (fun _ hk => hk.1.2) (.slice Ao25 t255.length co25)) (fun _ hk => hk.1.2) (.slice Ao26 t258.length co26)) (fun _ hk => hk.2) (.int .i64 t251)) (fun _ hk => hk.2) (.slice Ao24 t252.length co24)) (fun _ hk => hk.2) (.slice Ao25 t255.length co25)) (fun _ hk => hk.2) (.slice Ao26 t258.length co26)) (fun _ hk => hk.1.1)⟩, ⟨by (with_reducible repeat (first | apply Kd.R_alloc | apply Kd.R_drewN | apply Kd.R_drew)); exact Kd.R_mono (Kd.R_far (p := ⟨gb249, 3, none⟩) (Kd.R_far (p := ⟨gb249, 2, none⟩) (Kd.R_far (p := ⟨gb249, 1, none⟩) (Kd.R_far (p := ⟨gb249, 0, none⟩) (Kd.R_far (p := ⟨gb264, 3, none⟩) (Kd.R_far (p := ⟨gb264, 2, none⟩) (Kd.R_far (p := ⟨gb264, 1, none⟩) (Kd.R_far (p := ⟨gb264, 0, none⟩) (Kd.R_types (Kd.R_types HO254.out BK264.out (by decide)) BK249.out (by decide)) (fun _ hk => hk.1.2) (.int .i64 t251)) (fun _ hk => hk.1.2) (.slice Ao24 t252.length co24)) (fun _ hk => hk.1.2) (.slice Ao25 t255.length co25)) (fun _ hk => hk.1.2) (.slice Ao26 t258.length co26)) (fun _ hk => hk.2) (.int .i64 t251)) (fun _ hk => hk.2) (.slice Ao24 t252.length co24)) (fun _ hk => hk.2) (.slice Ao25 t255.length co25)) (fun _ hk => hk.2) (.slice Ao26 t258.length co26)) (fun _ hk => hk.1.1)⟩, ⟨by (with_reducible repeat (first | apply Kd.R_alloc | apply Kd.R_drewN | apply Kd.R_drew)); exact Kd.R_mono (Kd.R_far (p := ⟨gb249, 3, none⟩) (Kd.R_far (p := ⟨gb249, 2, none⟩) (Kd.R_far (p := ⟨gb249, 1, none⟩) (Kd.R_far (p := ⟨gb249, 0, none⟩) (Kd.R_far (p := ⟨gb264, 3, none⟩) (Kd.R_far (p := ⟨gb264, 2, none⟩) (Kd.R_far (p := ⟨gb264, 1, none⟩) (Kd.R_far (p := ⟨gb264, 0, none⟩) (Kd.R_types (Kd.R_types HO257.out BK264.out (by decide)) BK249.out (by decide)) (fun _ hk => hk.1.2) (.int .i64 t251)) (fun _ hk => hk.1.2) (.slice Ao24 t252.length co24)) (fun _ hk => hk.1.2) (.slice Ao25 t255.length co25)) (fun _ hk => hk.1.2) (.slice Ao26 t258.length co26)) (fun _ hk => hk.2) (.int .i64 t251)) (fun _ hk => hk.2) (.slice Ao24 t252.length co24)) (fun _ hk => hk.2) (.slice Ao25 t255.length co25)) (fun _ hk => hk.2) (.slice Ao26 t258.length co26)) (fun _ hk => trivial)⟩, ⟨by (with_reducible repeat (first | apply Kd.R_alloc | apply Kd.R_drewN | apply Kd.R_drew)); exact Kd.R_mono (Kd.R_far (p := ⟨gb249, 3, none⟩) (Kd.R_far (p := ⟨gb249, 2, none⟩) (Kd.R_far (p := ⟨gb249, 1, none⟩) (Kd.R_far (p := ⟨gb249, 0, none⟩) (Kd.R_far (p := ⟨gb264, 3, none⟩) (Kd.R_far (p := ⟨gb264, 2, none⟩) (Kd.R_far (p := ⟨gb264, 1, none⟩) (Kd.R_far (p := ⟨gb264, 0, none⟩) (Kd.R_types (Kd.R_types HO260.out BK264.out (by decide)) BK249.out (by decide)) (fun _ hk => hk.1.2) (.int .i64 t251)) (fun _ hk => hk.1.2) (.slice Ao24 t252.length co24)) (fun _ hk => hk.1.2) (.slice Ao25 t255.length co25)) (fun _ hk => hk.1.2) (.slice Ao26 t258.length co26)) (fun _ hk => hk.2) (.int .i64 t251)) (fun _ hk => hk.2) (.slice Ao24 t252.length co24)) (fun _ hk => hk.2) (.slice Ao25 t255.length co25)) (fun _ hk => hk.2) (.slice Ao26 t258.length co26)) (fun _ hk => hk.1.1)⟩, ⟨by (with_reducible repeat (first | refine blk_drewN ?_ _ | refine blk_drew ?_ | refine blk_alloc ?_ _)); refine blk_put (cs := #[.int .i64 t251, .slice Ao24 t252.length co24, .slice Ao25 t255.length co25, .slice Ao19 x250003_1.length co19]) ?_ 3 _ rfl; (with_reducible repeat (first | refine blk_drewN ?_ _ | refine blk_drew ?_ | refine blk_alloc ?_ _)); refine blk_put (cs := #[.int .i64 t251, .slice Ao24 t252.length co24, .slice Ao18 x250002_1.length co18, .slice Ao19 x250003_1.length co19]) ?_ 2 _ rfl; (with_reducible repeat (first | refine blk_drewN ?_ _ | refine blk_drew ?_ | refine blk_alloc ?_ _)); refine blk_put (cs := #[.int .i64 t251, .slice Ao17 x250001_1.length co17, .slice Ao18 x250002_1.length co18, .slice Ao19 x250003_1.length co19]) ?_ 1 _ rfl; (with_reducible repeat (first | refine blk_drewN ?_ _ | refine blk_drew ?_ | refine blk_alloc ?_ _)); refine blk_put (cs := #[.int .i64 x250000_1, .slice Ao17 x250001_1.length co17, .slice Ao18 x250002_1.length co18, .slice Ao19 x250003_1.length co19]) ?_ 0 _ rfl; (with_reducible repeat (first | refine blk_drewN ?_ _ | refine blk_drew ?_ | refine blk_alloc ?_ _)); refine blk_far ?_ NB249_264.out _; (with_reducible repeat (first | refine blk_drewN ?_ _ | refine blk_drew ?_ | refine blk_alloc ?_ _)); refine blk_far ?_ NB249_264.out _; (with_reducible repeat (first | refine blk_drewN ?_ _ | refine blk_drew ?_ | refine blk_alloc ?_ _)); refine blk_far ?_ NB249_264.out _; (with_reducible repeat (first | refine blk_drewN ?_ _ | refine blk_drew ?_ | refine blk_alloc ?_ _)); refine blk_far ?_ NB249_264.out _; (with_reducible repeat (first | refine blk_drewN ?_ _ | refine blk_drew ?_ | refine blk_alloc ?_ _)); exact BK249.out⟩, ⟨by (with_reducible repeat (first | refine blk_drewN ?_ _ | refine blk_drew ?_ | refine blk_alloc ?_ _)); refine blk_far ?_ NB264_249.out _; (with_reducible repeat (first | refine blk_drewN ?_ _ | refine blk_drew ?_ | refine blk_alloc ?_ _)); refine blk_far ?_ NB264_249.out _; (with_reducible repeat (first | refine blk_drewN ?_ _ | refine blk_drew ?_ | refine blk_alloc ?_ _)); refine blk_far ?_ NB264_249.out _; (with_reducible repeat (first | refine blk_drewN ?_ _ | refine blk_drew ?_ | refine blk_alloc ?_ _)); refine blk_far ?_ NB264_249.out _; (with_reducible repeat (first | refine blk_drewN ?_ _ | refine blk_drew ?_ | refine blk_alloc ?_ _)); refine blk_put (cs := #[.int .i64 t251, .slice Ao24 t252.length co24, .slice Ao25 t255.length co25, .slice none 0 0]) ?_ 3 _ rfl; (with_reducible repeat (first | refine blk_drewN ?_ _ | refine blk_drew ?_ | refine blk_alloc ?_ _)); refine blk_put (cs := #[.int .i64 t251, .slice Ao24 t252.length co24, .slice none 0 0, .slice none 0 0]) ?_ 2 _ rfl; (with_reducible repeat (first | refine blk_drewN ?_ _ | refine blk_drew ?_ | refine blk_alloc ?_ _)); refine blk_put (cs := #[.int .i64 t251, .slice none 0 0, .slice none 0 0, .slice none 0 0]) ?_ 1 _ rfl; (with_reducible repeat (first | refine blk_drewN ?_ _ | refine blk_drew ?_ | refine blk_alloc ?_ _)); refine blk_put (cs := #[.int .i64 0, .slice none 0 0, .slice none 0 0, .slice none 0 0]) ?_ 0 _ rfl; (with_reducible repeat (first | refine blk_drewN ?_ _ | refine blk_drew ?_ | refine blk_alloc ?_ _)); exact BK264.out⟩, ⟨by repeat (first | (with_reducible first | exact HB.out | apply below_alloc | apply pw_below_drewN | apply below_drew1 | refine below_set ?_ GE249.out | refine below_set ?_ GE264.out) | exact HB.out)⟩⟩
                    case rest =>
                      clear HC15
                      try clear c1
                      try clear c2
                      try clear p2
                      try clear q2
                      try clear hx2
                      try clear c3
                      try clear p6
                      try clear c8
                      try clear c8b0
                      try clear c9
                      try clear c10
                      try clear c10b0
                      try clear c11
                      try clear c11b0
                      try clear c13
                      try clear c13b0
                      try clear c13b1
                      try clear c14
                      try clear c16
                      try clear c22
                      try clear p25
                      try clear q25
                      try clear hx25
                      try clear p26
                      try clear q26
                      try clear hx26
                      try clear c28
                      try clear c28b0
                      try clear c28b1
                      try clear c28b2
                      try clear c30
                      try clear c31
                      try clear c31b0
                      try clear c32
                      try clear c32b0
                      try clear hcz16_0
                      try clear hcz16_1
                      try clear hcz16_2
                      try clear hcz16_3
                      try clear hcz23_0
                      try clear hcz23_1
                      try clear hcz23_2
                      try clear hcz23_3
                      try clear hcz27_0
                      try clear hcz27_1
                      try clear hcz27_2
                      try clear hcz27_3
                      try clear hcz6_0
                      try clear hcz6_1
                      try clear hcz6_2
                      try clear hcz6_3
                      try clear hfz16_0
                      try clear hfz16_1
                      try clear hfz16_2
                      try clear hfz16_3
                      try clear hfz23_0
                      try clear hfz23_1
                      try clear hfz23_2
                      try clear hfz23_3
                      try clear hfz27_0
                      try clear hfz27_1
                      try clear hfz27_2
                      try clear hfz27_3
                      try clear hfz6_0
                      try clear hfz6_1
                      try clear hfz6_2
                      try clear hfz6_3
                      try clear hx250_0
                      try clear hx265_0
                      try clear p2
                      try clear p250
                      try clear p265
                      try clear p6
                      try clear q250
                      try clear q265
                      obtain ⟨kq, x64_14, rfl, HA, HJ14, HO_7, HO_8, HO_250001, HO_250002, HO_250003, HO_265001, HO_265002, HO_265003, BK249, BK264, HB⟩ := hcut
                      cases kq with
                      | zero => exact absurd HA.out (by simp [catafalquelaw11_BoxPlays.j2])
                      | succ kj14 =>
                        have H := HA.out
                        clear HA
                        simp only [catafalquelaw11_BoxPlays.j2] at H
                        by_cases c35 : x64_14 = true
                        · subst c35
                          have H1 : (some false) = some r := by rw [if_pos rfl] at H; exact H
                          clear H
                          have H := H1
                          clear H1
                          obtain rfl := Option.some.inj H
                          go_wp2
                          go_ret
                          exact ⟨by first | rfl | (simp [errW_none, errW_some] <;> rfl) | (simp [*, errW_none, errW_some] <;> rfl), by repeat (first | (with_reducible first | exact HB.out | apply below_alloc | apply pw_below_drewN | apply below_drew1 | refine below_set ?_ GE249.out | refine below_set ?_ GE264.out) | exact HB.out)⟩
                        · replace c35 := Bool.eq_false_iff.mpr c35
                          subst c35
                          have H1 : (if t263 = true then (catafalquelaw11_BoxPlays.j4 kj14 l1 t248 x7_1 x8_1 (wrap64 (x9_1 + 1)) x10_1 t251 t252 t255 t258) else (if x8_1.length < 17592186044416 then (catafalquelaw11_BoxPlays.j4 kj14 l1 t248 x7_1 (x8_1 ++ [wrap64 (x10_1 + 1)]) x9_1 x10_1 t251 t252 t255 t258) else (none))) = some r := by rw [if_neg (show ¬ (false = true) by decide)] at H; exact H
                          clear H
                          have H := H1
                          clear H1
                          by_cases c36 : t263 = true
                          · subst c36
                            have H1 : (catafalquelaw11_BoxPlays.j4 kj14 l1 t248 x7_1 x8_1 (wrap64 (x9_1 + 1)) x10_1 t251 t252 t255 t258) = some r := by rw [if_pos rfl] at H; exact H
                            clear H
                            have H := H1
                            clear H1
                            have H' := Aside0.mk H
                            clear H
                            go_wp2
                            go_meet
                            case rel => exact ⟨_, (x7_1), (x8_1), (wrap64 (x9_1 + 1)), (t251), (t252), (t255), (t258), (.slice Ao24 t252.length co24), (.slice Ao25 t255.length co25), (.slice Ao26 t258.length co26), (by first | rfl | (simp; done) | (simp [*]; done)), H', ⟨by have := HK1.out; have := HJ6.out; have := HJ14.out; first | omega | exact Nat.le_refl _⟩, ⟨by (with_reducible repeat (first | apply Kd.R_alloc | apply Kd.R_drewN | apply Kd.R_drew)); exact Kd.R_mono HO_7.out (fun _ hk => hk.1)⟩, ⟨by (with_reducible repeat (first | apply Kd.Q_alloc | apply Kd.Q_drewN | apply Kd.Q_drew)); exact Kd.Q_mono HO_8.out (fun _ hk => hk.1)⟩, ⟨by (with_reducible repeat (first | apply Kd.R_alloc | apply Kd.R_drewN | apply Kd.R_drew)); exact HO_250001.out⟩, ⟨by (with_reducible repeat (first | apply Kd.R_alloc | apply Kd.R_drewN | apply Kd.R_drew)); exact HO_250002.out⟩, ⟨by (with_reducible repeat (first | apply Kd.R_alloc | apply Kd.R_drewN | apply Kd.R_drew)); exact HO_250003.out⟩, ⟨by (with_reducible repeat (first | refine blk_drewN ?_ _ | refine blk_drew ?_ | refine blk_alloc ?_ _)); exact BK249.out⟩, ⟨by repeat (first | (with_reducible first | exact HB.out | apply below_alloc | apply pw_below_drewN | apply below_drew1 | refine below_set ?_ GE249.out | refine below_set ?_ GE264.out) | exact HB.out)⟩⟩
                          · replace c36 := Bool.eq_false_iff.mpr c36
                            subst c36
                            have H1 : (if x8_1.length < 17592186044416 then (catafalquelaw11_BoxPlays.j4 kj14 l1 t248 x7_1 (x8_1 ++ [wrap64 (x10_1 + 1)]) x9_1 x10_1 t251 t252 t255 t258) else (none)) = some r := by rw [if_neg (show ¬ (false = true) by decide)] at H; exact H
                            clear H
                            have H := H1
                            clear H1
                            by_cases c37 : x8_1.length < 17592186044416
                            · rw [if_pos c37] at H
                              have LMc37 := Aside0.mk c37
                              clear c37
                              obtain ⟨y266, hy266⟩ : ∃ y_ : List Int, y_ = (x8_1 ++ [wrap64 (x10_1 + 1)]) := ⟨_, rfl⟩
                              replace H : (catafalquelaw11_BoxPlays.j4 kj14 l1 t248 x7_1 y266 x9_1 x10_1 t251 t252 t255 t258) = some r := by first | (rw [hy266]; with_reducible exact H) | (have H2_ := (Option.bind_some _ _).symm.trans H; rw [hy266]; with_reducible exact H2_) | (have H2_ := (Option.bind_some _ _).symm.trans H; with_reducible exact H2_) | with_reducible exact H | (rw [hy266]; exact H) | exact H
                              have Ny266 := Aside0.mk hy266
                              clear hy266
                              have H' := Aside0.mk H
                              clear H
                              go_wp2_with (first | ((with_reducible refine gate_builtin (b := .append) (xs := #[.tmp 68, .tmp 71]) rfl ?_); (try (refine gate_guard (by rfl) ?_; dsimp only)); at_builtin; refine Kd.Q_append (Kd.int .i64) (w0 := w) w.heap.size rfl (.tmp 68) (.tmp 71) 25 3 (.int .i64 0) 8 rfl Try.underlying25 info3 rfl (by decide) (by omega) u8 x8_1 (wrap64 (x10_1 + 1)) [.int .i64 (wrap64 (x10_1 + 1))] (fun k_ => some k_ ≠ (.slice Ao26 t258.length co26 : Value).ownBlock ∧ some k_ ≠ (.slice Ao26 t258.length co26 : Value).ownBlock) (fun _ => False) rfl rfl ?aP (fun _ hk => hk.elim) ?aF ?aO ?aB ?aS ?aL ?_; (case aP => exact rfl); (case aB => exact (by repeat (first | (with_reducible first | exact HB.out | apply below_alloc | apply pw_below_drewN | apply below_drew1 | refine below_set ?_ GE249.out | refine below_set ?_ GE264.out) | exact HB.out))); (case aF => exact (fun k_ hk => ⟨Kd.fresh' (Kd.R_lt (by (with_reducible repeat (first | apply Kd.R_alloc | apply Kd.R_drewN | apply Kd.R_drew)); exact HO_250003.out)) k_ hk, Kd.fresh' (Kd.R_lt (by (with_reducible repeat (first | apply Kd.R_alloc | apply Kd.R_drewN | apply Kd.R_drew)); exact HO_265003.out)) k_ hk⟩)); (case aO => exact (by (with_reducible repeat (first | apply Kd.Q_alloc | apply Kd.Q_drewN | apply Kd.Q_drew)); exact HO_8.out)); (case aS => exact (below_size (by repeat (first | (with_reducible first | exact HB.out | apply below_alloc | apply pw_below_drewN | apply below_drew1 | refine below_set ?_ GE249.out | refine below_set ?_ GE264.out) | exact HB.out)))); (case aL => have := LMc37.out; omega); intro v267 w38 ho hb hg hat; rw [← Ny266.out] at ho; have n0_ := Aside0.mk (Kd.R_over' (by (with_reducible repeat (first | apply Kd.R_alloc | apply Kd.R_drewN | apply Kd.R_drew)); exact HO_7.out) (Kd.Q_typed (by (with_reducible repeat (first | apply Kd.Q_alloc | apply Kd.Q_drewN | apply Kd.Q_drew)); exact HO_8.out)) (by decide) hg); have n1_ := Aside0.mk (Kd.R_over' (by (with_reducible repeat (first | apply Kd.R_alloc | apply Kd.R_drewN | apply Kd.R_drew)); exact HO_250001.out) (Kd.Q_typed (by (with_reducible repeat (first | apply Kd.Q_alloc | apply Kd.Q_drewN | apply Kd.Q_drew)); exact HO_8.out)) (by decide) hg); have n2_ := Aside0.mk (Kd.R_over' (by (with_reducible repeat (first | apply Kd.R_alloc | apply Kd.R_drewN | apply Kd.R_drew)); exact HO_250002.out) (Kd.Q_typed (by (with_reducible repeat (first | apply Kd.Q_alloc | apply Kd.Q_drewN | apply Kd.Q_drew)); exact HO_8.out)) (by decide) hg); have n3_ := Aside0.mk (Kd.R_after (ok := (fun _ => True)) (by (with_reducible repeat (first | apply Kd.R_alloc | apply Kd.R_drewN | apply Kd.R_drew)); exact Kd.R_mono HO_250003.out (fun _ hk => ⟨trivial, hk⟩)) hg hat); have n4_ := Aside0.mk (Kd.R_over' (by (with_reducible repeat (first | apply Kd.R_alloc | apply Kd.R_drewN | apply Kd.R_drew)); exact HO_265001.out) (Kd.Q_typed (by (with_reducible repeat (first | apply Kd.Q_alloc | apply Kd.Q_drewN | apply Kd.Q_drew)); exact HO_8.out)) (by decide) hg); have n5_ := Aside0.mk (Kd.R_over' (by (with_reducible repeat (first | apply Kd.R_alloc | apply Kd.R_drewN | apply Kd.R_drew)); exact HO_265002.out) (Kd.Q_typed (by (with_reducible repeat (first | apply Kd.Q_alloc | apply Kd.Q_drewN | apply Kd.Q_drew)); exact HO_8.out)) (by decide) hg); have n6_ := Aside0.mk (Kd.R_after (ok := (fun _ => True)) (by (with_reducible repeat (first | apply Kd.R_alloc | apply Kd.R_drewN | apply Kd.R_drew)); exact Kd.R_mono HO_265003.out (fun _ hk => ⟨trivial, hk⟩)) hg hat); have n7_ := Aside0.mk (blk_grown (g := gb249) (o := .cells #[.int .i64 t251, .slice Ao24 t252.length co24, .slice Ao25 t255.length co25, .slice Ao26 t258.length co26] 27 (0, 0)) (by (with_reducible repeat (first | refine blk_drewN ?_ _ | refine blk_drew ?_ | refine blk_alloc ?_ _)); exact BK249.out) hg (Kd.Q_ne HO_8.out BK249.out (by decide))); have n8_ := Aside0.mk (blk_grown (g := gb264) (o := .cells #[.int .i64 t251, .slice Ao24 t252.length co24, .slice Ao25 t255.length co25, .slice Ao26 t258.length co26] 27 (0, 0)) (by (with_reducible repeat (first | refine blk_drewN ?_ _ | refine blk_drew ?_ | refine blk_alloc ?_ _)); exact BK264.out) hg (Kd.Q_ne HO_8.out BK264.out (by decide))); have n9_ := Aside0.mk (hb); have n10_ := Aside0.mk (ho); clear HO_7; clear HO_250001; clear HO_250002; clear HO_250003; clear HO_265001; clear HO_265002; clear HO_265003; clear BK249; clear BK264; clear HB; clear HO_8; have HO_7 := n0_; have HO_250001 := n1_; have HO_250002 := n2_; have HO_250003 := n3_; have HO_265001 := n4_; have HO_265002 := n5_; have HO_265003 := n6_; have BK249 := n7_; have BK264 := n8_; have HB := n9_; have HO268 := n10_; clear n0_ n1_ n2_ n3_ n4_ n5_ n6_ n7_ n8_ n9_ n10_; clear ho hb hg hat))
                              go_meet
                              case rel => exact ⟨_, (x7_1), (y266), (x9_1), (t251), (t252), (t255), (t258), (.slice Ao24 t252.length co24), (.slice Ao25 t255.length co25), (.slice Ao26 t258.length co26), (by first | rfl | (simp; done) | (simp [*]; done)), H', ⟨by have := HK1.out; have := HJ6.out; have := HJ14.out; first | omega | exact Nat.le_refl _⟩, ⟨by (with_reducible repeat (first | apply Kd.R_alloc | apply Kd.R_drewN | apply Kd.R_drew)); exact Kd.R_mono HO_7.out (fun _ hk => hk.1)⟩, ⟨by (with_reducible repeat (first | apply Kd.Q_alloc | apply Kd.Q_drewN | apply Kd.Q_drew)); exact Kd.Q_mono HO268.out (fun _ hk => hk.1)⟩, ⟨by (with_reducible repeat (first | apply Kd.R_alloc | apply Kd.R_drewN | apply Kd.R_drew)); exact HO_250001.out⟩, ⟨by (with_reducible repeat (first | apply Kd.R_alloc | apply Kd.R_drewN | apply Kd.R_drew)); exact HO_250002.out⟩, ⟨by (with_reducible repeat (first | apply Kd.R_alloc | apply Kd.R_drewN | apply Kd.R_drew)); exact Kd.R_mono HO_250003.out (fun _ hk => hk.2)⟩, ⟨by (with_reducible repeat (first | refine blk_drewN ?_ _ | refine blk_drew ?_ | refine blk_alloc ?_ _)); exact BK249.out⟩, ⟨by repeat (first | (with_reducible first | exact HB.out | apply below_alloc | apply pw_below_drewN | apply below_drew1 | refine below_set ?_ GE249.out | refine below_set ?_ GE264.out) | exact HB.out)⟩⟩
                            · rw [if_neg c37] at H
                              exact absurd H (by simp)
                  · rw [if_neg c13] at H
                    have c13b0 : ((rd l1 x10_1) == 0) = false := beq_eq_false_iff_ne.mpr c13
                    have c13b1 : ((rd l1 x10_1) != 0) = true := bne_iff_ne.mpr c13
                    (first | rw [c13b0] | (simp only [i64_w, i32_w]; rw [c13b0]) | skip)
                    replace H := Option.bind_eq_some_iff.mp H
                    obtain ⟨⟨t270, t271, t274, t277, t280, t281⟩, A390, H⟩ := H
                    replace H : (if ((t280 != 0) != (decide ((x8_1.length : Int) > 0))) = true then (catafalquelaw11_BoxPlays.j3 kj6 l1 t248 x7_1 x8_1 x9_1 x10_1 t280 true t270 t271 t274 t277) else (if t280 = 0 then (catafalquelaw11_BoxPlays.j3 kj6 l1 t248 x7_1 x8_1 x9_1 x10_1 t280 false t270 t271 t274 t277) else (if 0 < (x8_1.length : Int) then (catafalquelaw11_BoxPlays.j3 kj6 l1 t248 x7_1 x8_1 x9_1 x10_1 t280 (t280 != (rd x8_1 0)) t270 t271 t274 t277) else (none)))) = some r := H
                    have A39 := Aside0.mk A390
                    clear A390
                    have HC40 := Aside0.mk H
                    clear H
                    obtain ⟨Ao41, co41, eo41⟩ := Kd.R_slice HO_250001.out
                    subst eo41
                    obtain ⟨Ao42, co42, eo42⟩ := Kd.R_slice HO_250002.out
                    subst eo42
                    obtain ⟨Ao43, co43, eo43⟩ := Kd.R_slice HO_250003.out
                    subst eo43
                    try go_wp2
                    have n0_ := Aside0.mk (Kd.R_drew HO_7.out)
                    have n1_ := Aside0.mk (Kd.Q_drew HO_8.out)
                    have n2_ := Aside0.mk (Kd.R_drew HO_250001.out)
                    have n3_ := Aside0.mk (Kd.R_drew HO_250002.out)
                    have n4_ := Aside0.mk (Kd.R_drew HO_250003.out)
                    have n5_ := Aside0.mk (blk_drew BK249.out)
                    have n6_ := Aside0.mk (below_drew1 HB.out)
                    clear HO_7
                    clear HO_8
                    clear HO_250001
                    clear HO_250002
                    clear HO_250003
                    clear BK249
                    clear HB
                    have HO_7 := n0_
                    have HO_8 := n1_
                    have HO_250001 := n2_
                    have HO_250002 := n3_
                    have HO_250003 := n4_
                    have BK249 := n5_
                    have HB := n6_
                    clear n0_ n1_ n2_ n3_ n4_ n5_ n6_
                    have p269 : 0 ≤ (x10_1 : Int) := of_decide_eq_true (by first | (with_reducible assumption) | assumption)
                    have q269 : x10_1 < (l1.length : Int) := of_decide_eq_true (by first | (with_reducible assumption) | assumption)
                    obtain ⟨ad269, e269, hx269_0⟩ := Kd.at_int HR1.out x10_1 p269 q269
                    have hw269_0 := hx269_0
                    obtain rfl : ad250 = ad269 := (by injection e269)
                    replace hx269_0 := (HB.out.cell (World.block_lt_of_cell? w _ hx269_0)).trans hx269_0
                    replace p269 := eq_true p269
                    replace q269 := eq_true q269
                    refine start_ (n := 16) (S := fun w' => w'.cell? ⟨gb249, 0, none⟩ = some (.int .i64 x250000_1) ∧ w'.cell? ⟨gb249, 1, none⟩ = some (.slice Ao41 x250001_1.length co41) ∧ w'.cell? ⟨gb249, 2, none⟩ = some (.slice Ao42 x250002_1.length co42) ∧ w'.cell? ⟨gb249, 3, none⟩ = some (.slice Ao43 x250003_1.length co43) ∧ w'.cell? (ad250.add (x10_1).toNat) = some (.int .i64 (rd l1 x10_1))) (ds := []) #[false, false, false, false, false, false, false, false, false, false, false, false, false, false, false, false] (by kernel_rfl) rfl rfl ⟨(blk_cell BK249.out 0).trans rfl, (blk_cell BK249.out 1).trans rfl, (blk_cell BK249.out 2).trans rfl, (blk_cell BK249.out 3).trans rfl, ((HB.out.cell (World.block_lt_of_cell? w _ hw269_0)).trans hw269_0)⟩ (fun hHeld => ?_); refine with_tabW catafalquelaw11_BoxPlays.tab17 catafalquelaw11_BoxPlays.bits17 (fun HT_ HW_ => ?_)
                    generalize wc.drew = w44 at HO_7 HO_8 HO_250001 HO_250002 HO_250003 BK249 HB hx269_0 hHeld ⊢
                    refine pure_ (i := 1) (N := some 75) (v := ?_) (a' := ?_) #[false, true, false, false, false, false, false, false, false, false, false, false, false, false, false, false] rfl rfl (any_of HT_.out (by kernel_rfl)) (fun _ _ _ h => h) (Or.inl ⟨by rfl, ?_⟩) ?_ ?_
                    rotate_left
                    · intro w'
                      go_simp
                      with_reducible rfl
                    rotate_left
                    · simp only [Act.put, List.setIfInBounds_toArray, List.set_cons_zero, List.set_cons_succ, i64_w, i32_w]
                      rfl
                    refine pure_ (i := 2) (N := some 76) (v := ?_) (a' := ?_) #[false, true, true, false, false, false, false, false, false, false, false, false, false, false, false, false] rfl rfl (any_of HT_.out (by kernel_rfl)) (fun _ _ _ h => h) (Or.inl ⟨by rfl, ?_⟩) ?_ ?_
                    rotate_left
                    · intro w'
                      go_simp
                      with_reducible rfl
                    rotate_left
                    · simp only [Act.put, List.setIfInBounds_toArray, List.set_cons_zero, List.set_cons_succ, i64_w, i32_w]
                      rfl
                    refine pure_ (i := 3) (N := some 77) (v := ?_) (a' := ?_) #[false, true, true, true, false, false, false, false, false, false, false, false, false, false, false, false] rfl rfl (any_of HT_.out (by kernel_rfl)) (fun _ _ _ h => h) (Or.inl ⟨by rfl, ?_⟩) ?_ ?_
                    rotate_left
                    · intro w'
                      go_simp
                      with_reducible rfl
                    rotate_left
                    · simp only [Act.put, List.setIfInBounds_toArray, List.set_cons_zero, List.set_cons_succ, i64_w, i32_w]
                      rfl
                    refine pure_ (i := 4) (N := some 78) (v := ?_) (a' := ?_) #[false, true, true, true, true, false, false, false, false, false, false, false, false, false, false, false] rfl rfl (any_of HT_.out (by kernel_rfl)) (fun _ _ _ h => h) (Or.inl ⟨by rfl, ?_⟩) ?_ ?_
                    rotate_left
                    · intro w'
                      go_simp
                      with_reducible rfl
                    rotate_left
                    · simp only [Act.put, List.setIfInBounds_toArray, List.set_cons_zero, List.set_cons_succ, i64_w, i32_w]
                      rfl
                    refine pure_ (i := 5) (N := some 79) (v := ?_) (a' := ?_) #[false, true, true, true, true, true, false, false, false, false, false, false, false, false, false, false] rfl rfl (any_of HT_.out (by kernel_rfl)) (fun _ _ _ h => h) (Or.inl ⟨by rfl, ?_⟩) ?_ ?_
                    rotate_left
                    · intro w'
                      go_simp
                      with_reducible rfl
                    rotate_left
                    · simp only [Act.put, List.setIfInBounds_toArray, List.set_cons_zero, List.set_cons_succ, i64_w, i32_w]
                      rfl
                    refine take_ (i := 0) (N := some 74) (v := ?_) (a' := ?_) #[true, true, true, true, true, true, false, false, false, false, false, false, false, false, false, false] rfl rfl (take_ofW HT_.out HW_.out (by kernel_rfl)) (fun _ _ _ h => h) (Or.inl ⟨by rfl, ?_⟩) hHeld ?_ ?_
                    rotate_left
                    · rintro w' ⟨s0, s1, s2, s3, s4⟩
                      go_simp
                      with_reducible rfl
                    rotate_left
                    · simp only [Act.put, List.setIfInBounds_toArray, List.set_cons_zero, List.set_cons_succ, i64_w, i32_w]
                      rfl
                    refine take_ (i := 6) (N := some 80) (v := ?_) (a' := ?_) #[true, true, true, true, true, true, true, false, false, false, false, false, false, false, false, false] rfl rfl (take_ofW HT_.out HW_.out (by kernel_rfl)) (fun _ _ _ h => h) (Or.inl ⟨by rfl, ?_⟩) hHeld ?_ ?_
                    rotate_left
                    · rintro w' ⟨s0, s1, s2, s3, s4⟩
                      go_simp
                      with_reducible rfl
                    rotate_left
                    · simp only [Act.put, List.setIfInBounds_toArray, List.set_cons_zero, List.set_cons_succ, i64_w, i32_w]
                      rfl
                    refine join_ (σ := Value × Value × Value × Nat) 3 #[true, true, true, true, true, true, true, true, true, true, true, true, true, false, false, false] (fun s_ => [(81, .tuple #[.agg #[.int .i64 t270, s_.1, s_.2.1, s_.2.2.1], .int .i64 t280, .bool t281]), (15, .pointer (some ⟨s_.2.2.2, 0, none⟩)), (73, .tuple #[.agg #[.int .i64 t270, s_.1, s_.2.1, s_.2.2.1], .int .i64 t280, .bool t281]), (82, .agg #[.int .i64 t270, s_.1, s_.2.1, s_.2.2.1]), (83, .int .i64 t280), (84, .bool t281)]) (fun s_ w' => (w'.cell? ⟨gb249, 0, none⟩ = some (.int .i64 x250000_1) ∧ w'.cell? ⟨gb249, 1, none⟩ = some (.slice Ao41 x250001_1.length co41) ∧ w'.cell? ⟨gb249, 2, none⟩ = some (.slice Ao42 x250002_1.length co42) ∧ w'.cell? ⟨gb249, 3, none⟩ = some (.slice Ao43 x250003_1.length co43) ∧ w'.cell? (ad250.add (x10_1).toNat) = some (.int .i64 (rd l1 x10_1))) ∧ (Kd.R (Kd.int .i64) 2 w' w.heap.size (fun k_ => some k_ ≠ (u7 : Value).ownBlock) s_.1 t271) ∧ (Kd.R k65 65 w' w.heap.size (fun _ => True) s_.2.1 t274) ∧ (Kd.R (Kd.int .i64) 3 w' w.heap.size (fun k_ => some k_ ≠ (u8 : Value).ownBlock) s_.2.2.1 t277) ∧ (Kd.R (Kd.int .i64) 2 w' w.heap.size (fun k_ => some k_ ≠ (s_.1 : Value).ownBlock) u7 x7_1) ∧ (Kd.Q (Kd.int .i64) 3 w' w.heap.size (fun k_ => some k_ ≠ (s_.2.2.1 : Value).ownBlock) u8 x8_1) ∧ (w'.heap[gb249]? = some (.cells #[.int .i64 x250000_1, .slice Ao41 x250001_1.length co41, .slice Ao42 x250002_1.length co42, .slice Ao43 x250003_1.length co43] 27 (0, 0))) ∧ (w'.heap[s_.2.2.2]? = some (.cells #[.int .i64 0, .slice none 0 0, .slice none 0 0, .slice none 0 0] 27 (0, 0))) ∧ (w.heap.size ≤ s_.2.2.2) ∧ (w.heap.size ≤ s_.2.2.2) ∧ (gb249 ≠ s_.2.2.2) ∧ (s_.2.2.2 ≠ gb249) ∧ (Below w.heap.size w w')) ?_ ?_
                    rotate_left
                    · intro hCont
                      refine two_ (i := 7) (j := 12) (Ni := some 81) (Nj := some 15) #[true, true, true, true, true, true, true, true, false, false, false, false, false, false, false, false] #[true, true, true, true, true, true, true, false, false, false, false, false, true, false, false, false] rfl rfl rfl rfl (two_of HT_.out (by kernel_rfl)) (by decide) (by decide) (fun K hK => ?_) (fun K hK => ?_)
                      · skip
                        refine goes_ Try.func15 (by kernel_rfl) rfl #[.agg #[.int .i64 x250000_1, .slice Ao41 x250001_1.length co41, .slice Ao42 x250002_1.length co42, .slice Ao43 x250003_1.length co43], .int .i64 (wrap64 (x10_1 + 1)), .int .i64 (rd l1 x10_1)] (by rfl) rfl rfl (by (try simp only [List.map_toArray, List.map_cons, List.map_nil]); first | done | rfl | (simp only [List.length_drop, List.length_take]; rfl)) ?_
                        with_reducible refine (box_Send.calls x250000_1 (fun k_ => some k_ = (.slice Ao41 x250001_1.length co41 : Value).ownBlock) (.slice Ao41 x250001_1.length co41) x250001_1 (fun k_ => some k_ = (.slice Ao42 x250002_1.length co42 : Value).ownBlock) (.slice Ao42 x250002_1.length co42) x250002_1 (fun k_ => some k_ = (.slice Ao43 x250003_1.length co43 : Value).ownBlock) (.slice Ao43 x250003_1.length co43) x250003_1 (wrap64 (x10_1 + 1)) (rd l1 x10_1) t270 t271 t274 t277 t280 t281 w _ ?side1 ?side2 ?side3 ?side4 A39.out).mono ?_
                        (case side1 => repeat (first | (with_reducible first | exact HB.out | apply below_alloc | apply pw_below_drewN | apply below_drew1 | refine below_set ?_ GE249.out) | exact HB.out))
                        (case side2 => exact Kd.R_tight rfl HO_250001.out)
                        (case side3 => exact Kd.R_tight rfl HO_250002.out)
                        (case side4 => exact Kd.R_tight rfl HO_250003.out)
                        rintro e w45 ⟨v272, v275, v278, rfl, ho0, ho1, ho2, hb, hkp⟩
                        refine ⟨_, rfl, ?_⟩
                        have n0_ := Aside0.mk (Kd.R_mono (ok' := fun k_ => some k_ ≠ (v272 : Value).ownBlock) (Kd.R_keptB ((Kd.R_apart' (Kd.R_apart' HO_7.out (Kd.R_typed HO_250002.out) (by decide)) (Kd.R_typed HO_250003.out) (by decide))) hkp (fun k_ hk_ hs_ => Or.elim hs_ (fun e_ => (hk_.1.1) e_) (fun e_ => Or.elim e_ (fun e_ => (hk_.1.2) e_) (fun e_ => (hk_.2) e_)))) (fun k_ hk_ => fun e_ => Or.elim (ho0.1 k_ e_.symm) (fun hs_ => hk_.2.1 hs_) (fun hn_ => Nat.not_le.2 hk_.2.2 hn_)))
                        have n1_ := Aside0.mk (Kd.Q_mono (ok' := fun k_ => some k_ ≠ (v278 : Value).ownBlock) (Kd.Q_keptB ((Kd.Q_apart' (Kd.Q_apart' HO_8.out (Kd.R_typed HO_250001.out) (by decide)) (Kd.R_typed HO_250002.out) (by decide))) hkp (fun k_ hk_ hs_ => Or.elim hs_ (fun e_ => (hk_.1.2) e_) (fun e_ => Or.elim e_ (fun e_ => (hk_.2) e_) (fun e_ => (hk_.1.1) e_)))) (fun k_ hk_ => fun e_ => Or.elim (ho2.1 k_ e_.symm) (fun hs_ => hk_.2.1 hs_) (fun hn_ => Nat.not_le.2 hk_.2.2 hn_)))
                        have n2_ := Aside0.mk (blk_kept (by (with_reducible repeat (first | refine blk_drewN ?_ _ | refine blk_drew ?_ | refine blk_alloc ?_ _)); exact BK249.out) hkp (fun hs_ => Or.elim hs_ (fun e_ => (fun e_ => (Kd.R_ne HO_250001.out BK249.out (by decide)) e_) e_) (fun e_ => Or.elim e_ (fun e_ => (fun e_ => (Kd.R_ne HO_250002.out BK249.out (by decide)) e_) e_) (fun e_ => (fun e_ => (Kd.R_ne HO_250003.out BK249.out (by decide)) e_) e_))))
                        have n3_ := Aside0.mk (Kd.R_mono (ok' := fun k_ => some k_ ≠ (u7 : Value).ownBlock) ho0 (fun k_ hk_ => Or.elim hk_ (fun hs_ => Or.elim hs_ (fun hs_ => fun e_ => ((((Kd.R_apart' (Kd.R_apart' HO_7.out (Kd.R_typed HO_250002.out) (by decide)) (Kd.R_typed HO_250003.out) (by decide))).1 k_ e_.symm).1.1) hs_) (fun hs_ => Or.elim hs_ (fun hs_ => fun e_ => ((((Kd.R_apart' (Kd.R_apart' HO_7.out (Kd.R_typed HO_250002.out) (by decide)) (Kd.R_typed HO_250003.out) (by decide))).1 k_ e_.symm).1.2) hs_) (fun hs_ => fun e_ => ((((Kd.R_apart' (Kd.R_apart' HO_7.out (Kd.R_typed HO_250002.out) (by decide)) (Kd.R_typed HO_250003.out) (by decide))).1 k_ e_.symm).2) hs_))) (fun hn_ => (Kd.fresh' (Kd.R_lt (by (with_reducible repeat (first | apply Kd.R_alloc | apply Kd.R_drewN | apply Kd.R_drew)); exact HO_7.out)) k_ hn_))))
                        have n4_ := Aside0.mk (Kd.R_mono (ok' := fun k_ => True) ho1 (fun k_ hk_ => trivial))
                        have n5_ := Aside0.mk (Kd.R_mono (ok' := fun k_ => some k_ ≠ (u8 : Value).ownBlock) ho2 (fun k_ hk_ => Or.elim hk_ (fun hs_ => Or.elim hs_ (fun hs_ => fun e_ => ((((Kd.Q_apart' (Kd.Q_apart' HO_8.out (Kd.R_typed HO_250001.out) (by decide)) (Kd.R_typed HO_250002.out) (by decide))).1 k_ e_.symm).1.2) hs_) (fun hs_ => Or.elim hs_ (fun hs_ => fun e_ => ((((Kd.Q_apart' (Kd.Q_apart' HO_8.out (Kd.R_typed HO_250001.out) (by decide)) (Kd.R_typed HO_250002.out) (by decide))).1 k_ e_.symm).2) hs_) (fun hs_ => fun e_ => ((((Kd.Q_apart' (Kd.Q_apart' HO_8.out (Kd.R_typed HO_250001.out) (by decide)) (Kd.R_typed HO_250002.out) (by decide))).1 k_ e_.symm).1.1) hs_))) (fun hn_ => (Kd.fresh' (Kd.Q_lt (by (with_reducible repeat (first | apply Kd.Q_alloc | apply Kd.Q_drewN | apply Kd.Q_drew)); exact HO_8.out)) k_ hn_))))
                        have n6_ := Aside0.mk (hb)
                        clear HO_7
                        clear HO_8
                        clear BK249
                        clear HB
                        clear HO_250001
                        clear HO_250002
                        clear HO_250003
                        have HO_7 := n0_
                        have HO_8 := n1_
                        have BK249 := n2_
                        have HO273 := n3_
                        have HO276 := n4_
                        have HO279 := n5_
                        have HB := n6_
                        clear n0_ n1_ n2_ n3_ n4_ n5_ n6_
                        (try clear hb)
                        (try clear hkp)
                        (try clear ho0)
                        (try clear ho1)
                        (try clear ho2)
                        refine hK.out _ _ ⟨(blk_cell BK249.out 0).trans rfl, (blk_cell BK249.out 1).trans rfl, (blk_cell BK249.out 2).trans rfl, (blk_cell BK249.out 3).trans rfl, ((HB.out.cell (World.block_lt_of_cell? w _ hw269_0)).trans hw269_0)⟩ (fun hHeld => ?_)
                        clear hK K
                        refine norm_ (a' := ?_) ?_ ?_
                        rotate_left
                        · show Act.put _ (some 81) _ = _
                          simp only [Act.put, List.setIfInBounds_toArray, List.set_cons_zero, List.set_cons_succ, i64_w, i32_w]
                          rfl
                        refine pure_ (i := 8) (N := some 73) (v := ?_) (a' := ?_) #[true, true, true, true, true, true, true, true, true, false, false, false, false, false, false, false] rfl rfl (any_of HT_.out (by kernel_rfl)) (fun _ _ _ h => h) (Or.inl ⟨by rfl, ?_⟩) ?_ ?_
                        rotate_left
                        · intro w'
                          go_simp
                          with_reducible rfl
                        rotate_left
                        · simp only [Act.put, List.setIfInBounds_toArray, List.set_cons_zero, List.set_cons_succ, i64_w, i32_w]
                          rfl
                        refine pure_ (i := 9) (N := some 82) (v := ?_) (a' := ?_) #[true, true, true, true, true, true, true, true, true, true, false, false, false, false, false, false] rfl rfl (any_of HT_.out (by kernel_rfl)) (fun _ _ _ h => h) (Or.inl ⟨by rfl, ?_⟩) ?_ ?_
                        rotate_left
                        · intro w'
                          go_simp
                          with_reducible rfl
                        rotate_left
                        · simp only [Act.put, List.setIfInBounds_toArray, List.set_cons_zero, List.set_cons_succ, i64_w, i32_w]
                          rfl
                        refine pure_ (i := 10) (N := some 83) (v := ?_) (a' := ?_) #[true, true, true, true, true, true, true, true, true, true, true, false, false, false, false, false] rfl rfl (any_of HT_.out (by kernel_rfl)) (fun _ _ _ h => h) (Or.inl ⟨by rfl, ?_⟩) ?_ ?_
                        rotate_left
                        · intro w'
                          go_simp
                          with_reducible rfl
                        rotate_left
                        · simp only [Act.put, List.setIfInBounds_toArray, List.set_cons_zero, List.set_cons_succ, i64_w, i32_w]
                          rfl
                        refine pure_ (i := 11) (N := some 84) (v := ?_) (a' := ?_) #[true, true, true, true, true, true, true, true, true, true, true, true, false, false, false, false] rfl rfl (any_of HT_.out (by kernel_rfl)) (fun _ _ _ h => h) (Or.inl ⟨by rfl, ?_⟩) ?_ ?_
                        rotate_left
                        · intro w'
                          go_simp
                          with_reducible rfl
                        rotate_left
                        · simp only [Act.put, List.setIfInBounds_toArray, List.set_cons_zero, List.set_cons_succ, i64_w, i32_w]
                          rfl
                        refine one_ (i := 12) (N := some 15) #[true, true, true, true, true, true, true, true, true, true, true, true, true, false, false, false] rfl rfl (one_of HT_.out (by kernel_rfl)) (by decide) (fun K hK => ?_)
                        refine box_step ?hg (N := 15) ?hd (cs := #[.int .i64 0, .slice none 0 0, .slice none 0 0, .slice none 0 0]) (t := 27) ?hr ?_; (case hd => rfl); (case hg => rfl); (case hr => first | (go_simp; done) | (go_simp; rfl))
                        intro gb282 hg w46 hbox hb
                        have n0_ := Aside0.mk (Kd.R_below (by (with_reducible repeat (first | apply Kd.R_alloc | apply Kd.R_drewN | apply Kd.R_drew)); exact HO_7.out) hb)
                        have n1_ := Aside0.mk (Kd.Q_below (by (with_reducible repeat (first | apply Kd.Q_alloc | apply Kd.Q_drewN | apply Kd.Q_drew)); exact HO_8.out) hb)
                        have n2_ := Aside0.mk (Kd.R_below (by (with_reducible repeat (first | apply Kd.R_alloc | apply Kd.R_drewN | apply Kd.R_drew)); exact HO273.out) hb)
                        have n3_ := Aside0.mk (Kd.R_below (by (with_reducible repeat (first | apply Kd.R_alloc | apply Kd.R_drewN | apply Kd.R_drew)); exact HO276.out) hb)
                        have n4_ := Aside0.mk (Kd.R_below (by (with_reducible repeat (first | apply Kd.R_alloc | apply Kd.R_drewN | apply Kd.R_drew)); exact HO279.out) hb)
                        have n5_ := Aside0.mk (blk_below (g := gb249) (o := .cells #[.int .i64 x250000_1, .slice Ao41 x250001_1.length co41, .slice Ao42 x250002_1.length co42, .slice Ao43 x250003_1.length co43] 27 (0, 0)) (by (with_reducible repeat (first | refine blk_drewN ?_ _ | refine blk_drew ?_ | refine blk_alloc ?_ _)); exact BK249.out) hb)
                        have n6_ := Aside0.mk (below_step (by repeat (first | (with_reducible first | exact HB.out | apply below_alloc | apply pw_below_drewN | apply below_drew1 | refine below_set ?_ GE249.out) | exact HB.out)) hb)
                        have n7_ := Aside0.mk (hbox)
                        have n8_ := Aside0.mk ((by rw [hg]; exact (below_size (by repeat (first | (with_reducible first | exact HB.out | apply below_alloc | apply pw_below_drewN | apply below_drew1 | refine below_set ?_ GE249.out) | exact HB.out))) : w.heap.size ≤ gb282))
                        have n9_ := Aside0.mk ((by rw [hg]; exact (below_size (by repeat (first | (with_reducible first | exact HB.out | apply below_alloc | apply pw_below_drewN | apply below_drew1 | refine below_set ?_ GE249.out) | exact HB.out))) : w.heap.size ≤ gb282))
                        have n10_ := Aside0.mk ((by rw [hg]; exact Nat.ne_of_lt (blk_lt (g := gb249) (o := .cells #[.int .i64 x250000_1, .slice Ao41 x250001_1.length co41, .slice Ao42 x250002_1.length co42, .slice Ao43 x250003_1.length co43] 27 (0, 0)) (by (with_reducible repeat (first | refine blk_drewN ?_ _ | refine blk_drew ?_ | refine blk_alloc ?_ _)); exact BK249.out)) : gb249 ≠ gb282))
                        have n11_ := Aside0.mk ((by rw [hg]; exact Nat.ne_of_gt (blk_lt (g := gb249) (o := .cells #[.int .i64 x250000_1, .slice Ao41 x250001_1.length co41, .slice Ao42 x250002_1.length co42, .slice Ao43 x250003_1.length co43] 27 (0, 0)) (by (with_reducible repeat (first | refine blk_drewN ?_ _ | refine blk_drew ?_ | refine blk_alloc ?_ _)); exact BK249.out)) : gb282 ≠ gb249))
                        clear HO_7
                        clear HO_8
                        clear HO273
                        clear HO276
                        clear HO279
                        clear BK249
                        clear HB
                        have HO_7 := n0_
                        have HO_8 := n1_
                        have HO273 := n2_
                        have HO276 := n3_
                        have HO279 := n4_
                        have BK249 := n5_
                        have HB := n6_
                        have BK282 := n7_
                        have GW282 := n8_
                        have GE282 := n9_
                        have NB249_282 := n10_
                        have NB282_249 := n11_
                        clear n0_ n1_ n2_ n3_ n4_ n5_ n6_ n7_ n8_ n9_ n10_ n11_
                        clear hb hbox hg
                        refine hK.out _ _ ⟨(blk_cell BK249.out 0).trans rfl, (blk_cell BK249.out 1).trans rfl, (blk_cell BK249.out 2).trans rfl, (blk_cell BK249.out 3).trans rfl, ((HB.out.cell (World.block_lt_of_cell? w _ hw269_0)).trans hw269_0)⟩ (fun hHeld => ?_)
                        clear hK K
                        refine norm_ (a' := ?_) ?_ ?_
                        rotate_left
                        · show Act.put _ (some 15) _ = _
                          simp only [Act.put, List.setIfInBounds_toArray, List.set_cons_zero, List.set_cons_succ, i64_w, i32_w]
                          rfl
                        exact norm_ (by simp only [putAll, Act.put, List.setIfInBounds_toArray, List.set_cons_zero, List.set_cons_succ]) (hCont (v272, v275, v278, gb282) _ ⟨hHeld, (by (with_reducible repeat (first | apply Kd.R_alloc | apply Kd.R_drewN | apply Kd.R_drew)); exact HO273.out), (by (with_reducible repeat (first | apply Kd.R_alloc | apply Kd.R_drewN | apply Kd.R_drew)); exact HO276.out), (by (with_reducible repeat (first | apply Kd.R_alloc | apply Kd.R_drewN | apply Kd.R_drew)); exact HO279.out), (by (with_reducible repeat (first | apply Kd.R_alloc | apply Kd.R_drewN | apply Kd.R_drew)); exact HO_7.out), (by (with_reducible repeat (first | apply Kd.Q_alloc | apply Kd.Q_drewN | apply Kd.Q_drew)); exact HO_8.out), (by (with_reducible repeat (first | refine blk_drewN ?_ _ | refine blk_drew ?_ | refine blk_alloc ?_ _)); exact BK249.out), (by (with_reducible repeat (first | refine blk_drewN ?_ _ | refine blk_drew ?_ | refine blk_alloc ?_ _)); exact BK282.out), GW282.out, GE282.out, NB249_282.out, NB282_249.out, (by repeat (first | (with_reducible first | exact HB.out | apply below_alloc | apply pw_below_drewN | apply below_drew1 | refine below_set ?_ GE249.out | refine below_set ?_ GE282.out) | exact HB.out))⟩)
                      · skip
                        refine box_step ?hg (N := 15) ?hd (cs := #[.int .i64 0, .slice none 0 0, .slice none 0 0, .slice none 0 0]) (t := 27) ?hr ?_; (case hd => rfl); (case hg => rfl); (case hr => first | (go_simp; done) | (go_simp; rfl))
                        intro gb282 hg w45 hbox hb
                        have n0_ := Aside0.mk (Kd.R_below (by (with_reducible repeat (first | apply Kd.R_alloc | apply Kd.R_drewN | apply Kd.R_drew)); exact HO_7.out) hb)
                        have n1_ := Aside0.mk (Kd.Q_below (by (with_reducible repeat (first | apply Kd.Q_alloc | apply Kd.Q_drewN | apply Kd.Q_drew)); exact HO_8.out) hb)
                        have n2_ := Aside0.mk (Kd.R_below (by (with_reducible repeat (first | apply Kd.R_alloc | apply Kd.R_drewN | apply Kd.R_drew)); exact HO_250001.out) hb)
                        have n3_ := Aside0.mk (Kd.R_below (by (with_reducible repeat (first | apply Kd.R_alloc | apply Kd.R_drewN | apply Kd.R_drew)); exact HO_250002.out) hb)
                        have n4_ := Aside0.mk (Kd.R_below (by (with_reducible repeat (first | apply Kd.R_alloc | apply Kd.R_drewN | apply Kd.R_drew)); exact HO_250003.out) hb)
                        have n5_ := Aside0.mk (blk_below (g := gb249) (o := .cells #[.int .i64 x250000_1, .slice Ao41 x250001_1.length co41, .slice Ao42 x250002_1.length co42, .slice Ao43 x250003_1.length co43] 27 (0, 0)) (by (with_reducible repeat (first | refine blk_drewN ?_ _ | refine blk_drew ?_ | refine blk_alloc ?_ _)); exact BK249.out) hb)
                        have n6_ := Aside0.mk (below_step (by repeat (first | (with_reducible first | exact HB.out | apply below_alloc | apply pw_below_drewN | apply below_drew1 | refine below_set ?_ GE249.out) | exact HB.out)) hb)
                        have n7_ := Aside0.mk (hbox)
                        have n8_ := Aside0.mk ((by rw [hg]; exact (below_size (by repeat (first | (with_reducible first | exact HB.out | apply below_alloc | apply pw_below_drewN | apply below_drew1 | refine below_set ?_ GE249.out) | exact HB.out))) : w.heap.size ≤ gb282))
                        have n9_ := Aside0.mk ((by rw [hg]; exact (below_size (by repeat (first | (with_reducible first | exact HB.out | apply below_alloc | apply pw_below_drewN | apply below_drew1 | refine below_set ?_ GE249.out) | exact HB.out))) : w.heap.size ≤ gb282))
                        have n10_ := Aside0.mk ((by rw [hg]; exact Nat.ne_of_lt (blk_lt (g := gb249) (o := .cells #[.int .i64 x250000_1, .slice Ao41 x250001_1.length co41, .slice Ao42 x250002_1.length co42, .slice Ao43 x250003_1.length co43] 27 (0, 0)) (by (with_reducible repeat (first | refine blk_drewN ?_ _ | refine blk_drew ?_ | refine blk_alloc ?_ _)); exact BK249.out)) : gb249 ≠ gb282))
                        have n11_ := Aside0.mk ((by rw [hg]; exact Nat.ne_of_gt (blk_lt (g := gb249) (o := .cells #[.int .i64 x250000_1, .slice Ao41 x250001_1.length co41, .slice Ao42 x250002_1.length co42, .slice Ao43 x250003_1.length co43] 27 (0, 0)) (by (with_reducible repeat (first | refine blk_drewN ?_ _ | refine blk_drew ?_ | refine blk_alloc ?_ _)); exact BK249.out)) : gb282 ≠ gb249))
                        clear HO_7
                        clear HO_8
                        clear HO_250001
                        clear HO_250002
                        clear HO_250003
                        clear BK249
                        clear HB
                        have HO_7 := n0_
                        have HO_8 := n1_
                        have HO_250001 := n2_
                        have HO_250002 := n3_
                        have HO_250003 := n4_
                        have BK249 := n5_
                        have HB := n6_
                        have BK282 := n7_
                        have GW282 := n8_
                        have GE282 := n9_
                        have NB249_282 := n10_
                        have NB282_249 := n11_
                        clear n0_ n1_ n2_ n3_ n4_ n5_ n6_ n7_ n8_ n9_ n10_ n11_
                        clear hb hbox hg
                        refine hK.out _ _ ⟨(blk_cell BK249.out 0).trans rfl, (blk_cell BK249.out 1).trans rfl, (blk_cell BK249.out 2).trans rfl, (blk_cell BK249.out 3).trans rfl, ((HB.out.cell (World.block_lt_of_cell? w _ hw269_0)).trans hw269_0)⟩ (fun hHeld => ?_)
                        clear hK K
                        refine norm_ (a' := ?_) ?_ ?_
                        rotate_left
                        · show Act.put _ (some 15) _ = _
                          simp only [Act.put, List.setIfInBounds_toArray, List.set_cons_zero, List.set_cons_succ, i64_w, i32_w]
                          rfl
                        refine one_ (i := 7) (N := some 81) #[true, true, true, true, true, true, true, true, false, false, false, false, true, false, false, false] rfl rfl (one_of HT_.out (by kernel_rfl)) (by decide) (fun K hK => ?_)
                        refine goes_ Try.func15 (by kernel_rfl) rfl #[.agg #[.int .i64 x250000_1, .slice Ao41 x250001_1.length co41, .slice Ao42 x250002_1.length co42, .slice Ao43 x250003_1.length co43], .int .i64 (wrap64 (x10_1 + 1)), .int .i64 (rd l1 x10_1)] (by rfl) rfl rfl (by (try simp only [List.map_toArray, List.map_cons, List.map_nil]); first | done | rfl | (simp only [List.length_drop, List.length_take]; rfl)) ?_
                        with_reducible refine (box_Send.calls x250000_1 (fun k_ => some k_ = (.slice Ao41 x250001_1.length co41 : Value).ownBlock) (.slice Ao41 x250001_1.length co41) x250001_1 (fun k_ => some k_ = (.slice Ao42 x250002_1.length co42 : Value).ownBlock) (.slice Ao42 x250002_1.length co42) x250002_1 (fun k_ => some k_ = (.slice Ao43 x250003_1.length co43 : Value).ownBlock) (.slice Ao43 x250003_1.length co43) x250003_1 (wrap64 (x10_1 + 1)) (rd l1 x10_1) t270 t271 t274 t277 t280 t281 w _ ?side1 ?side2 ?side3 ?side4 A39.out).mono ?_
                        (case side1 => repeat (first | (with_reducible first | exact HB.out | apply below_alloc | apply pw_below_drewN | apply below_drew1 | refine below_set ?_ GE249.out | refine below_set ?_ GE282.out) | exact HB.out))
                        (case side2 => exact Kd.R_tight rfl HO_250001.out)
                        (case side3 => exact Kd.R_tight rfl HO_250002.out)
                        (case side4 => exact Kd.R_tight rfl HO_250003.out)
                        rintro e w46 ⟨v272, v275, v278, rfl, ho0, ho1, ho2, hb, hkp⟩
                        refine ⟨_, rfl, ?_⟩
                        have n0_ := Aside0.mk (Kd.R_mono (ok' := fun k_ => some k_ ≠ (v272 : Value).ownBlock) (Kd.R_keptB ((Kd.R_apart' (Kd.R_apart' HO_7.out (Kd.R_typed HO_250002.out) (by decide)) (Kd.R_typed HO_250003.out) (by decide))) hkp (fun k_ hk_ hs_ => Or.elim hs_ (fun e_ => (hk_.1.1) e_) (fun e_ => Or.elim e_ (fun e_ => (hk_.1.2) e_) (fun e_ => (hk_.2) e_)))) (fun k_ hk_ => fun e_ => Or.elim (ho0.1 k_ e_.symm) (fun hs_ => hk_.2.1 hs_) (fun hn_ => Nat.not_le.2 hk_.2.2 hn_)))
                        have n1_ := Aside0.mk (Kd.Q_mono (ok' := fun k_ => some k_ ≠ (v278 : Value).ownBlock) (Kd.Q_keptB ((Kd.Q_apart' (Kd.Q_apart' HO_8.out (Kd.R_typed HO_250001.out) (by decide)) (Kd.R_typed HO_250002.out) (by decide))) hkp (fun k_ hk_ hs_ => Or.elim hs_ (fun e_ => (hk_.1.2) e_) (fun e_ => Or.elim e_ (fun e_ => (hk_.2) e_) (fun e_ => (hk_.1.1) e_)))) (fun k_ hk_ => fun e_ => Or.elim (ho2.1 k_ e_.symm) (fun hs_ => hk_.2.1 hs_) (fun hn_ => Nat.not_le.2 hk_.2.2 hn_)))
                        have n2_ := Aside0.mk (blk_kept (by (with_reducible repeat (first | refine blk_drewN ?_ _ | refine blk_drew ?_ | refine blk_alloc ?_ _)); exact BK249.out) hkp (fun hs_ => Or.elim hs_ (fun e_ => (fun e_ => (Kd.R_ne HO_250001.out BK249.out (by decide)) e_) e_) (fun e_ => Or.elim e_ (fun e_ => (fun e_ => (Kd.R_ne HO_250002.out BK249.out (by decide)) e_) e_) (fun e_ => (fun e_ => (Kd.R_ne HO_250003.out BK249.out (by decide)) e_) e_))))
                        have n3_ := Aside0.mk (blk_kept (by (with_reducible repeat (first | refine blk_drewN ?_ _ | refine blk_drew ?_ | refine blk_alloc ?_ _)); exact BK282.out) hkp (fun hs_ => Or.elim hs_ (fun e_ => (fun e_ => (Kd.R_ne HO_250001.out BK282.out (by decide)) e_) e_) (fun e_ => Or.elim e_ (fun e_ => (fun e_ => (Kd.R_ne HO_250002.out BK282.out (by decide)) e_) e_) (fun e_ => (fun e_ => (Kd.R_ne HO_250003.out BK282.out (by decide)) e_) e_))))
                        have n4_ := Aside0.mk (Kd.R_mono (ok' := fun k_ => some k_ ≠ (u7 : Value).ownBlock) ho0 (fun k_ hk_ => Or.elim hk_ (fun hs_ => Or.elim hs_ (fun hs_ => fun e_ => ((((Kd.R_apart' (Kd.R_apart' HO_7.out (Kd.R_typed HO_250002.out) (by decide)) (Kd.R_typed HO_250003.out) (by decide))).1 k_ e_.symm).1.1) hs_) (fun hs_ => Or.elim hs_ (fun hs_ => fun e_ => ((((Kd.R_apart' (Kd.R_apart' HO_7.out (Kd.R_typed HO_250002.out) (by decide)) (Kd.R_typed HO_250003.out) (by decide))).1 k_ e_.symm).1.2) hs_) (fun hs_ => fun e_ => ((((Kd.R_apart' (Kd.R_apart' HO_7.out (Kd.R_typed HO_250002.out) (by decide)) (Kd.R_typed HO_250003.out) (by decide))).1 k_ e_.symm).2) hs_))) (fun hn_ => (Kd.fresh' (Kd.R_lt (by (with_reducible repeat (first | apply Kd.R_alloc | apply Kd.R_drewN | apply Kd.R_drew)); exact HO_7.out)) k_ hn_))))
                        have n5_ := Aside0.mk (Kd.R_mono (ok' := fun k_ => True) ho1 (fun k_ hk_ => trivial))
                        have n6_ := Aside0.mk (Kd.R_mono (ok' := fun k_ => some k_ ≠ (u8 : Value).ownBlock) ho2 (fun k_ hk_ => Or.elim hk_ (fun hs_ => Or.elim hs_ (fun hs_ => fun e_ => ((((Kd.Q_apart' (Kd.Q_apart' HO_8.out (Kd.R_typed HO_250001.out) (by decide)) (Kd.R_typed HO_250002.out) (by decide))).1 k_ e_.symm).1.2) hs_) (fun hs_ => Or.elim hs_ (fun hs_ => fun e_ => ((((Kd.Q_apart' (Kd.Q_apart' HO_8.out (Kd.R_typed HO_250001.out) (by decide)) (Kd.R_typed HO_250002.out) (by decide))).1 k_ e_.symm).2) hs_) (fun hs_ => fun e_ => ((((Kd.Q_apart' (Kd.Q_apart' HO_8.out (Kd.R_typed HO_250001.out) (by decide)) (Kd.R_typed HO_250002.out) (by decide))).1 k_ e_.symm).1.1) hs_))) (fun hn_ => (Kd.fresh' (Kd.Q_lt (by (with_reducible repeat (first | apply Kd.Q_alloc | apply Kd.Q_drewN | apply Kd.Q_drew)); exact HO_8.out)) k_ hn_))))
                        have n7_ := Aside0.mk (hb)
                        clear HO_7
                        clear HO_8
                        clear BK249
                        clear BK282
                        clear HB
                        clear HO_250001
                        clear HO_250002
                        clear HO_250003
                        have HO_7 := n0_
                        have HO_8 := n1_
                        have BK249 := n2_
                        have BK282 := n3_
                        have HO273 := n4_
                        have HO276 := n5_
                        have HO279 := n6_
                        have HB := n7_
                        clear n0_ n1_ n2_ n3_ n4_ n5_ n6_ n7_
                        (try clear hb)
                        (try clear hkp)
                        (try clear ho0)
                        (try clear ho1)
                        (try clear ho2)
                        refine hK.out _ _ ⟨(blk_cell BK249.out 0).trans rfl, (blk_cell BK249.out 1).trans rfl, (blk_cell BK249.out 2).trans rfl, (blk_cell BK249.out 3).trans rfl, ((HB.out.cell (World.block_lt_of_cell? w _ hw269_0)).trans hw269_0)⟩ (fun hHeld => ?_)
                        clear hK K
                        refine norm_ (a' := ?_) ?_ ?_
                        rotate_left
                        · show Act.put _ (some 81) _ = _
                          simp only [Act.put, List.setIfInBounds_toArray, List.set_cons_zero, List.set_cons_succ, i64_w, i32_w]
                          rfl
                        refine pure_ (i := 8) (N := some 73) (v := ?_) (a' := ?_) #[true, true, true, true, true, true, true, true, true, false, false, false, true, false, false, false] rfl rfl (any_of HT_.out (by kernel_rfl)) (fun _ _ _ h => h) (Or.inl ⟨by rfl, ?_⟩) ?_ ?_
                        rotate_left
                        · intro w'
                          go_simp
                          with_reducible rfl
                        rotate_left
                        · simp only [Act.put, List.setIfInBounds_toArray, List.set_cons_zero, List.set_cons_succ, i64_w, i32_w]
                          rfl
                        refine pure_ (i := 9) (N := some 82) (v := ?_) (a' := ?_) #[true, true, true, true, true, true, true, true, true, true, false, false, true, false, false, false] rfl rfl (any_of HT_.out (by kernel_rfl)) (fun _ _ _ h => h) (Or.inl ⟨by rfl, ?_⟩) ?_ ?_
                        rotate_left
                        · intro w'
                          go_simp
                          with_reducible rfl
                        rotate_left
                        · simp only [Act.put, List.setIfInBounds_toArray, List.set_cons_zero, List.set_cons_succ, i64_w, i32_w]
                          rfl
                        refine pure_ (i := 10) (N := some 83) (v := ?_) (a' := ?_) #[true, true, true, true, true, true, true, true, true, true, true, false, true, false, false, false] rfl rfl (any_of HT_.out (by kernel_rfl)) (fun _ _ _ h => h) (Or.inl ⟨by rfl, ?_⟩) ?_ ?_
                        rotate_left
                        · intro w'
                          go_simp
                          with_reducible rfl
                        rotate_left
                        · simp only [Act.put, List.setIfInBounds_toArray, List.set_cons_zero, List.set_cons_succ, i64_w, i32_w]
                          rfl
                        refine pure_ (i := 11) (N := some 84) (v := ?_) (a' := ?_) #[true, true, true, true, true, true, true, true, true, true, true, true, true, false, false, false] rfl rfl (any_of HT_.out (by kernel_rfl)) (fun _ _ _ h => h) (Or.inl ⟨by rfl, ?_⟩) ?_ ?_
                        rotate_left
                        · intro w'
                          go_simp
                          with_reducible rfl
                        rotate_left
                        · simp only [Act.put, List.setIfInBounds_toArray, List.set_cons_zero, List.set_cons_succ, i64_w, i32_w]
                          rfl
                        exact norm_ (by simp only [putAll, Act.put, List.setIfInBounds_toArray, List.set_cons_zero, List.set_cons_succ]) (hCont (v272, v275, v278, gb282) _ ⟨hHeld, (by (with_reducible repeat (first | apply Kd.R_alloc | apply Kd.R_drewN | apply Kd.R_drew)); exact HO273.out), (by (with_reducible repeat (first | apply Kd.R_alloc | apply Kd.R_drewN | apply Kd.R_drew)); exact HO276.out), (by (with_reducible repeat (first | apply Kd.R_alloc | apply Kd.R_drewN | apply Kd.R_drew)); exact HO279.out), (by (with_reducible repeat (first | apply Kd.R_alloc | apply Kd.R_drewN | apply Kd.R_drew)); exact HO_7.out), (by (with_reducible repeat (first | apply Kd.Q_alloc | apply Kd.Q_drewN | apply Kd.Q_drew)); exact HO_8.out), (by (with_reducible repeat (first | refine blk_drewN ?_ _ | refine blk_drew ?_ | refine blk_alloc ?_ _)); exact BK249.out), (by (with_reducible repeat (first | refine blk_drewN ?_ _ | refine blk_drew ?_ | refine blk_alloc ?_ _)); exact BK282.out), GW282.out, GE282.out, NB249_282.out, NB282_249.out, (by repeat (first | (with_reducible first | exact HB.out | apply below_alloc | apply pw_below_drewN | apply below_drew1 | refine below_set ?_ GE249.out | refine below_set ?_ GE282.out) | exact HB.out))⟩)
                    rintro ⟨v272, v275, v278, gb282⟩ w47 ⟨hS_, h0_, h1_, h2_, h3_, h4_, h5_, h6_, h7_, h8_, h9_, h10_, h11_⟩
                    have n0_ : Aside0 (Kd.R (Kd.int .i64) 2 w47 w.heap.size (fun k_ => some k_ ≠ (u7 : Value).ownBlock) v272 t271) := ⟨h0_⟩
                    have n1_ : Aside0 (Kd.R k65 65 w47 w.heap.size (fun _ => True) v275 t274) := ⟨h1_⟩
                    have n2_ : Aside0 (Kd.R (Kd.int .i64) 3 w47 w.heap.size (fun k_ => some k_ ≠ (u8 : Value).ownBlock) v278 t277) := ⟨h2_⟩
                    have n3_ : Aside0 (Kd.R (Kd.int .i64) 2 w47 w.heap.size (fun k_ => some k_ ≠ (v272 : Value).ownBlock) u7 x7_1) := ⟨h3_⟩
                    have n4_ : Aside0 (Kd.Q (Kd.int .i64) 3 w47 w.heap.size (fun k_ => some k_ ≠ (v278 : Value).ownBlock) u8 x8_1) := ⟨h4_⟩
                    have n5_ : Aside0 (w47.heap[gb249]? = some (.cells #[.int .i64 x250000_1, .slice Ao41 x250001_1.length co41, .slice Ao42 x250002_1.length co42, .slice Ao43 x250003_1.length co43] 27 (0, 0))) := ⟨h5_⟩
                    have n6_ : Aside0 (w47.heap[gb282]? = some (.cells #[.int .i64 0, .slice none 0 0, .slice none 0 0, .slice none 0 0] 27 (0, 0))) := ⟨h6_⟩
                    have n7_ : Aside0 (w.heap.size ≤ gb282) := ⟨h7_⟩
                    have n8_ : Aside0 (w.heap.size ≤ gb282) := ⟨h8_⟩
                    have n9_ : Aside0 (gb249 ≠ gb282) := ⟨h9_⟩
                    have n10_ : Aside0 (gb282 ≠ gb249) := ⟨h10_⟩
                    have n11_ : Aside0 (Below w.heap.size w w47) := ⟨h11_⟩
                    clear HO_7
                    clear HO_8
                    clear HO_250001
                    clear HO_250002
                    clear HO_250003
                    clear BK249
                    clear HB
                    clear h0_ h1_ h2_ h3_ h4_ h5_ h6_ h7_ h8_ h9_ h10_ h11_
                    have HO273 := n0_
                    have HO276 := n1_
                    have HO279 := n2_
                    have HO_7 := n3_
                    have HO_8 := n4_
                    have BK249 := n5_
                    have BK282 := n6_
                    have GW282 := n7_
                    have GE282 := n8_
                    have NB249_282 := n9_
                    have NB282_249 := n10_
                    have HB := n11_
                    clear n0_ n1_ n2_ n3_ n4_ n5_ n6_ n7_ n8_ n9_ n10_ n11_
                    have hHeld : w47.cell? ⟨gb249, 0, none⟩ = some (.int .i64 x250000_1) ∧ w47.cell? ⟨gb249, 1, none⟩ = some (.slice Ao41 x250001_1.length co41) ∧ w47.cell? ⟨gb249, 2, none⟩ = some (.slice Ao42 x250002_1.length co42) ∧ w47.cell? ⟨gb249, 3, none⟩ = some (.slice Ao43 x250003_1.length co43) ∧ w47.cell? (ad250.add (x10_1).toNat) = some (.int .i64 (rd l1 x10_1)) := hS_
                    obtain ⟨Ao49, co49, eo49⟩ := Kd.R_slice HO273.out
                    (first | subst eo49 | (injection eo49 with f1_ f2_ f3_; have f4_ := f1_.symm; have f5_ := f3_.symm; clear f1_ f2_ f3_; subst f4_; subst f5_))
                    obtain ⟨Ao51, co51, eo51⟩ := Kd.R_slice HO276.out
                    (first | subst eo51 | (injection eo51 with f1_ f2_ f3_; have f4_ := f1_.symm; have f5_ := f3_.symm; clear f1_ f2_ f3_; subst f4_; subst f5_))
                    obtain ⟨Ao53, co53, eo53⟩ := Kd.R_slice HO279.out
                    (first | subst eo53 | (injection eo53 with f1_ f2_ f3_; have f4_ := f1_.symm; have f5_ := f3_.symm; clear f1_ f2_ f3_; subst f4_; subst f5_))
                    refine norm_ (a' := ?_) ?_ ?_
                    rotate_left
                    · simp only [putAll, Act.put, List.setIfInBounds_toArray, List.set_cons_zero, List.set_cons_succ]
                      rfl
                    refine one_ (i := 13) (N := none) #[true, true, true, true, true, true, true, true, true, true, true, true, true, true, false, false] rfl rfl (one_of HT_.out (by kernel_rfl)) (by decide) (fun K hK => ?_)
                    have hs48 : w47.cell? ⟨gb282, 0, none⟩ = some (.int .i64 0) := (blk_cell BK282.out 0).trans rfl
                    have hfs48 := blk_frozen BK282.out 0
                    have hns48_0 := NB249_282.out
                    have hms48_0 := NB282_249.out
                    have hs50 : w47.cell? ⟨gb282, 1, none⟩ = some (.slice none 0 0) := (blk_cell BK282.out 1).trans rfl
                    have hfs50 := blk_frozen BK282.out 1
                    have hns50_0 := NB249_282.out
                    have hms50_0 := NB282_249.out
                    have hs52 : w47.cell? ⟨gb282, 2, none⟩ = some (.slice none 0 0) := (blk_cell BK282.out 2).trans rfl
                    have hfs52 := blk_frozen BK282.out 2
                    have hns52_0 := NB249_282.out
                    have hms52_0 := NB282_249.out
                    have hs54 : w47.cell? ⟨gb282, 3, none⟩ = some (.slice none 0 0) := (blk_cell BK282.out 3).trans rfl
                    have hfs54 := blk_frozen BK282.out 3
                    have hns54_0 := NB249_282.out
                    have hms54_0 := NB282_249.out
                    refine skip_ (w1 := ?_) (by rfl) rfl ?_ ?_
                    rotate_left
                    · go_simp
                      rfl
                    refine hK.out _ _ ⟨((cell_far (p := ⟨gb282, _, none⟩) NB249_282.out _).trans (((cell_far (p := ⟨gb282, _, none⟩) NB249_282.out _).trans (((cell_far (p := ⟨gb282, _, none⟩) NB249_282.out _).trans (((cell_far (p := ⟨gb282, _, none⟩) NB249_282.out _).trans (hHeld.1)))))))), ((cell_far (p := ⟨gb282, _, none⟩) NB249_282.out _).trans (((cell_far (p := ⟨gb282, _, none⟩) NB249_282.out _).trans (((cell_far (p := ⟨gb282, _, none⟩) NB249_282.out _).trans (((cell_far (p := ⟨gb282, _, none⟩) NB249_282.out _).trans (hHeld.2.1)))))))), ((cell_far (p := ⟨gb282, _, none⟩) NB249_282.out _).trans (((cell_far (p := ⟨gb282, _, none⟩) NB249_282.out _).trans (((cell_far (p := ⟨gb282, _, none⟩) NB249_282.out _).trans (((cell_far (p := ⟨gb282, _, none⟩) NB249_282.out _).trans (hHeld.2.2.1)))))))), ((cell_far (p := ⟨gb282, _, none⟩) NB249_282.out _).trans (((cell_far (p := ⟨gb282, _, none⟩) NB249_282.out _).trans (((cell_far (p := ⟨gb282, _, none⟩) NB249_282.out _).trans (((cell_far (p := ⟨gb282, _, none⟩) NB249_282.out _).trans (hHeld.2.2.2.1)))))))), ((cell_far (p := ⟨gb282, _, none⟩) (by first | exact Nat.ne_of_lt (Nat.lt_of_lt_of_le (by have := World.block_lt_of_cell? _ _ hw269_0; first | rwa [add_block] at this | exact this) GW282.out) | (rw [add_block]; exact Nat.ne_of_lt (Nat.lt_of_lt_of_le (by have := World.block_lt_of_cell? _ _ hw269_0; first | rwa [add_block] at this | exact this) GW282.out)) | (show (Addr.add _ _).block ≠ _; rw [add_block]; exact Nat.ne_of_lt (Nat.lt_of_lt_of_le (by have := World.block_lt_of_cell? _ _ hw269_0; first | rwa [add_block] at this | exact this) GW282.out)) | (dsimp only; exact Nat.ne_of_lt (Nat.lt_of_lt_of_le (by have := World.block_lt_of_cell? _ _ hw269_0; first | rwa [add_block] at this | exact this) GW282.out))) _).trans (((cell_far (p := ⟨gb282, _, none⟩) (by first | exact Nat.ne_of_lt (Nat.lt_of_lt_of_le (by have := World.block_lt_of_cell? _ _ hw269_0; first | rwa [add_block] at this | exact this) GW282.out) | (rw [add_block]; exact Nat.ne_of_lt (Nat.lt_of_lt_of_le (by have := World.block_lt_of_cell? _ _ hw269_0; first | rwa [add_block] at this | exact this) GW282.out)) | (show (Addr.add _ _).block ≠ _; rw [add_block]; exact Nat.ne_of_lt (Nat.lt_of_lt_of_le (by have := World.block_lt_of_cell? _ _ hw269_0; first | rwa [add_block] at this | exact this) GW282.out)) | (dsimp only; exact Nat.ne_of_lt (Nat.lt_of_lt_of_le (by have := World.block_lt_of_cell? _ _ hw269_0; first | rwa [add_block] at this | exact this) GW282.out))) _).trans (((cell_far (p := ⟨gb282, _, none⟩) (by first | exact Nat.ne_of_lt (Nat.lt_of_lt_of_le (by have := World.block_lt_of_cell? _ _ hw269_0; first | rwa [add_block] at this | exact this) GW282.out) | (rw [add_block]; exact Nat.ne_of_lt (Nat.lt_of_lt_of_le (by have := World.block_lt_of_cell? _ _ hw269_0; first | rwa [add_block] at this | exact this) GW282.out)) | (show (Addr.add _ _).block ≠ _; rw [add_block]; exact Nat.ne_of_lt (Nat.lt_of_lt_of_le (by have := World.block_lt_of_cell? _ _ hw269_0; first | rwa [add_block] at this | exact this) GW282.out)) | (dsimp only; exact Nat.ne_of_lt (Nat.lt_of_lt_of_le (by have := World.block_lt_of_cell? _ _ hw269_0; first | rwa [add_block] at this | exact this) GW282.out))) _).trans (((cell_far (p := ⟨gb282, _, none⟩) (by first | exact Nat.ne_of_lt (Nat.lt_of_lt_of_le (by have := World.block_lt_of_cell? _ _ hw269_0; first | rwa [add_block] at this | exact this) GW282.out) | (rw [add_block]; exact Nat.ne_of_lt (Nat.lt_of_lt_of_le (by have := World.block_lt_of_cell? _ _ hw269_0; first | rwa [add_block] at this | exact this) GW282.out)) | (show (Addr.add _ _).block ≠ _; rw [add_block]; exact Nat.ne_of_lt (Nat.lt_of_lt_of_le (by have := World.block_lt_of_cell? _ _ hw269_0; first | rwa [add_block] at this | exact this) GW282.out)) | (dsimp only; exact Nat.ne_of_lt (Nat.lt_of_lt_of_le (by have := World.block_lt_of_cell? _ _ hw269_0; first | rwa [add_block] at this | exact this) GW282.out))) _).trans (hHeld.2.2.2.2))))))))⟩ (fun hHeld => ?_)
                    clear hK K
                    refine pure_ (i := 14) (N := some 16) (v := ?_) (a' := ?_) #[true, true, true, true, true, true, true, true, true, true, true, true, true, true, true, false] rfl rfl (any_of HT_.out (by kernel_rfl)) (fun _ _ _ h => h) (Or.inl ⟨by rfl, ?_⟩) ?_ ?_
                    rotate_left
                    · intro w'
                      go_simp
                      with_reducible rfl
                    rotate_left
                    · simp only [Act.put, List.setIfInBounds_toArray, List.set_cons_zero, List.set_cons_succ, i64_w, i32_w]
                      rfl
                    refine pure_ (i := 15) (N := some 17) (v := ?_) (a' := ?_) #[true, true, true, true, true, true, true, true, true, true, true, true, true, true, true, true] rfl rfl (any_of HT_.out (by kernel_rfl)) (fun _ _ _ h => h) (Or.inl ⟨by rfl, ?_⟩) ?_ ?_
                    rotate_left
                    · intro w'
                      go_simp
                      with_reducible rfl
                    rotate_left
                    · simp only [Act.put, List.setIfInBounds_toArray, List.set_cons_zero, List.set_cons_succ, i64_w, i32_w]
                      rfl
                    refine done_ (done_of HT_.out (by kernel_rfl)) ?_
                    have hnb55 := NB282_249.out
                    have hnc55 := NB249_282.out
                    have hcz56_0 : w47.cell? ⟨gb282, 0, none⟩ = some (.int .i64 0) := (blk_cell BK282.out 0).trans rfl
                    have hcz56_1 : w47.cell? ⟨gb282, 1, none⟩ = some (.slice none 0 0) := (blk_cell BK282.out 1).trans rfl
                    have hcz56_2 : w47.cell? ⟨gb282, 2, none⟩ = some (.slice none 0 0) := (blk_cell BK282.out 2).trans rfl
                    have hcz56_3 : w47.cell? ⟨gb282, 3, none⟩ = some (.slice none 0 0) := (blk_cell BK282.out 3).trans rfl
                    have hfz56_0 := blk_frozen BK282.out 0
                    have hfz56_1 := blk_frozen BK282.out 1
                    have hfz56_2 := blk_frozen BK282.out 2
                    have hfz56_3 := blk_frozen BK282.out 3
                    have hcz57_0 : w47.cell? ⟨gb249, 0, none⟩ = some (.int .i64 x250000_1) := (blk_cell BK249.out 0).trans rfl
                    have hcz57_1 : w47.cell? ⟨gb249, 1, none⟩ = some (.slice Ao41 x250001_1.length co41) := (blk_cell BK249.out 1).trans rfl
                    have hcz57_2 : w47.cell? ⟨gb249, 2, none⟩ = some (.slice Ao42 x250002_1.length co42) := (blk_cell BK249.out 2).trans rfl
                    have hcz57_3 : w47.cell? ⟨gb249, 3, none⟩ = some (.slice Ao43 x250003_1.length co43) := (blk_cell BK249.out 3).trans rfl
                    have hfz57_0 := blk_frozen BK249.out 0
                    have hfz57_1 := blk_frozen BK249.out 1
                    have hfz57_2 := blk_frozen BK249.out 2
                    have hfz57_3 := blk_frozen BK249.out 3
                    go_upto_region 19 with (fail)
                    go_cut [102] (fun v102 wc => ∃ (kq : Nat) (x102_39 : Bool), v102 = .bool x102_39 ∧ Aside0 (catafalquelaw11_BoxPlays.j3 kq l1 t248 x7_1 x8_1 x9_1 x10_1 t280 x102_39 t270 t271 t274 t277 = some r) ∧ Aside0 (kq ≤ kj6) ∧ Aside0 (Kd.R (Kd.int .i64) 2 wc w.heap.size (fun k_ => some k_ ≠ ((.slice Ao49 t271.length co49) : Value).ownBlock ∧ some k_ ≠ ((.slice Ao49 t271.length co49) : Value).ownBlock) u7 x7_1) ∧ Aside0 (Kd.Q (Kd.int .i64) 3 wc w.heap.size (fun k_ => some k_ ≠ ((.slice Ao53 t277.length co53) : Value).ownBlock ∧ some k_ ≠ ((.slice Ao53 t277.length co53) : Value).ownBlock) u8 x8_1) ∧ Aside0 (Kd.R (Kd.int .i64) 2 wc w.heap.size (fun k_ => some k_ ≠ (u7 : Value).ownBlock) (.slice Ao49 t271.length co49) t271) ∧ Aside0 (Kd.R k65 65 wc w.heap.size (fun _ => True) (.slice Ao51 t274.length co51) t274) ∧ Aside0 (Kd.R (Kd.int .i64) 3 wc w.heap.size (fun k_ => some k_ ≠ (u8 : Value).ownBlock) (.slice Ao53 t277.length co53) t277) ∧ Aside0 (Kd.R (Kd.int .i64) 2 wc w.heap.size (fun k_ => some k_ ≠ (u7 : Value).ownBlock) (.slice Ao49 t271.length co49) t271) ∧ Aside0 (Kd.R k65 65 wc w.heap.size (fun _ => True) (.slice Ao51 t274.length co51) t274) ∧ Aside0 (Kd.R (Kd.int .i64) 3 wc w.heap.size (fun k_ => some k_ ≠ (u8 : Value).ownBlock) (.slice Ao53 t277.length co53) t277) ∧ Aside0 (wc.heap[gb249]? = some (.cells #[.int .i64 t270, (.slice Ao49 t271.length co49), (.slice Ao51 t274.length co51), (.slice Ao53 t277.length co53)] 27 (0, 0))) ∧ Aside0 (wc.heap[gb282]? = some (.cells #[.int .i64 t270, (.slice Ao49 t271.length co49), (.slice Ao51 t274.length co51), (.slice Ao53 t277.length co53)] 27 (0, 0))) ∧ Aside0 (Below w.heap.size w wc))
                    case first =>
                      have H := HC40.out
                      clear HC40
                      by_cases c58 : ((t280 != 0) != (decide ((x8_1.length : Int) > 0))) = true
                      · rw [if_pos c58] at H
                        have c58b0 : ((t280 != 0) != (decide ((x8_1.length : Int) > 0))) = true := c58
                        (try (have c58b0n := c58b0; rw [show decide ((x8_1.length : Int) > 0) = decide (0 < x8_1.length) from decide_eq_decide.2 (by omega)] at c58b0n))
                        (try (have c58b1 : decide ((t280 != 0) = (decide ((x8_1.length : Int) > 0))) = false := by simpa using c58))
                        (try (have c58b1n := c58b1; rw [show decide ((x8_1.length : Int) > 0) = decide (0 < x8_1.length) from decide_eq_decide.2 (by omega)] at c58b1n))
                        (try (have c58b2 : ((t280 != 0) == (decide ((x8_1.length : Int) > 0))) = false := by simpa using c58))
                        (try (have c58b2n := c58b2; rw [show decide ((x8_1.length : Int) > 0) = decide (0 < x8_1.length) from decide_eq_decide.2 (by omega)] at c58b2n))
                        (try (have c58b3 : ¬ ((t280 != 0) = (decide ((x8_1.length : Int) > 0))) := by simpa using c58))
                        (try (have c58b3n := c58b3; rw [show decide ((x8_1.length : Int) > 0) = decide (0 < x8_1.length) from decide_eq_decide.2 (by omega)] at c58b3n))
                        clear c58
                        (first | rw [c58b0] | (simp only [i64_w, i32_w]; rw [c58b0]) | skip)
                        have H' := Aside0.mk H
                        clear H
                        obtain ⟨Ao59, co59, eo59, _⟩ := Kd.Q_slice HO_8.out
                        subst eo59
                        go_wp2
                        go_meet
                        case rel => exact ⟨_, (true), (by first | rfl | (simp; done) | (simp [*]; done)), H', ⟨by have := HK1.out; have := HJ6.out; first | omega | exact Nat.le_refl _⟩, ⟨by (with_reducible repeat (first | apply Kd.R_alloc | apply Kd.R_drewN | apply Kd.R_drew)); exact Kd.R_mono (Kd.R_far (p := ⟨gb249, 3, none⟩) (Kd.R_far (p := ⟨gb249, 2, none⟩) (Kd.R_far (p := ⟨gb249, 1, none⟩) (Kd.R_far (p := ⟨gb249, 0, none⟩) (Kd.R_far (p := ⟨gb282, 3, none⟩) (Kd.R_far (p := ⟨gb282, 2, none⟩) (Kd.R_far (p := ⟨gb282, 1, none⟩) (Kd.R_far (p := ⟨gb282, 0, none⟩) (Kd.R_types (Kd.R_types HO_7.out BK282.out (by decide)) BK249.out (by decide)) (fun _ hk => hk.1.2) (.int .i64 t270)) (fun _ hk => hk.1.2) (.slice Ao49 t271.length co49)) (fun _ hk => hk.1.2) (.slice Ao51 t274.length co51)) (fun _ hk => hk.1.2) (.slice Ao53 t277.length co53)) (fun _ hk => hk.2) (.int .i64 t270)) (fun _ hk => hk.2) (.slice Ao49 t271.length co49)) (fun _ hk => hk.2) (.slice Ao51 t274.length co51)) (fun _ hk => hk.2) (.slice Ao53 t277.length co53)) (fun _ hk => ⟨hk.1.1, hk.1.1⟩)⟩, ⟨by (with_reducible repeat (first | apply Kd.Q_alloc | apply Kd.Q_drewN | apply Kd.Q_drew)); exact Kd.Q_mono (Kd.Q_far (p := ⟨gb249, 3, none⟩) (Kd.Q_far (p := ⟨gb249, 2, none⟩) (Kd.Q_far (p := ⟨gb249, 1, none⟩) (Kd.Q_far (p := ⟨gb249, 0, none⟩) (Kd.Q_far (p := ⟨gb282, 3, none⟩) (Kd.Q_far (p := ⟨gb282, 2, none⟩) (Kd.Q_far (p := ⟨gb282, 1, none⟩) (Kd.Q_far (p := ⟨gb282, 0, none⟩) (Kd.Q_types (Kd.Q_types HO_8.out BK282.out (by decide)) BK249.out (by decide)) (fun _ hk => hk.1.2) (.int .i64 t270)) (fun _ hk => hk.1.2) (.slice Ao49 t271.length co49)) (fun _ hk => hk.1.2) (.slice Ao51 t274.length co51)) (fun _ hk => hk.1.2) (.slice Ao53 t277.length co53)) (fun _ hk => hk.2) (.int .i64 t270)) (fun _ hk => hk.2) (.slice Ao49 t271.length co49)) (fun _ hk => hk.2) (.slice Ao51 t274.length co51)) (fun _ hk => hk.2) (.slice Ao53 t277.length co53)) (fun _ hk => ⟨hk.1.1, hk.1.1⟩)⟩, ⟨by (with_reducible repeat (first | apply Kd.R_alloc | apply Kd.R_drewN | apply Kd.R_drew)); exact Kd.R_mono (Kd.R_far (p := ⟨gb249, 3, none⟩) (Kd.R_far (p := ⟨gb249, 2, none⟩) (Kd.R_far (p := ⟨gb249, 1, none⟩) (Kd.R_far (p := ⟨gb249, 0, none⟩) (Kd.R_far (p := ⟨gb282, 3, none⟩) (Kd.R_far (p := ⟨gb282, 2, none⟩) (Kd.R_far (p := ⟨gb282, 1, none⟩) (Kd.R_far (p := ⟨gb282, 0, none⟩) (Kd.R_types (Kd.R_types HO273.out BK282.out (by decide)) BK249.out (by decide)) (fun _ hk => hk.1.2) (.int .i64 t270)) (fun _ hk => hk.1.2) (.slice Ao49 t271.length co49)) (fun _ hk => hk.1.2) (.slice Ao51 t274.length co51)) (fun _ hk => hk.1.2) (.slice Ao53 t277.length co53)) (fun _ hk => hk.2) (.int .i64 t270)) (fun _ hk => hk.2) (.slice Ao49 t271.length co49)) (fun _ hk => hk.2) (.slice Ao51 t274.length co51)) (fun _ hk => hk.2) (.slice Ao53 t277.length co53)) (fun _ hk => hk.1.1)⟩, ⟨by (with_reducible repeat (first | apply Kd.R_alloc | apply Kd.R_drewN | apply Kd.R_drew)); exact Kd.R_mono (Kd.R_far (p := ⟨gb249, 3, none⟩) (Kd.R_far (p := ⟨gb249, 2, none⟩) (Kd.R_far (p := ⟨gb249, 1, none⟩) (Kd.R_far (p := ⟨gb249, 0, none⟩) (Kd.R_far (p := ⟨gb282, 3, none⟩) (Kd.R_far (p := ⟨gb282, 2, none⟩) (Kd.R_far (p := ⟨gb282, 1, none⟩) (Kd.R_far (p := ⟨gb282, 0, none⟩) (Kd.R_types (Kd.R_types HO276.out BK282.out (by decide)) BK249.out (by decide)) (fun _ hk => hk.1.2) (.int .i64 t270)) (fun _ hk => hk.1.2) (.slice Ao49 t271.length co49)) (fun _ hk => hk.1.2) (.slice Ao51 t274.length co51)) (fun _ hk => hk.1.2) (.slice Ao53 t277.length co53)) (fun _ hk => hk.2) (.int .i64 t270)) (fun _ hk => hk.2) (.slice Ao49 t271.length co49)) (fun _ hk => hk.2) (.slice Ao51 t274.length co51)) (fun _ hk => hk.2) (.slice Ao53 t277.length co53)) (fun _ hk => trivial)⟩, ⟨by (with_reducible repeat (first | apply Kd.R_alloc | apply Kd.R_drewN | apply Kd.R_drew)); exact Kd.R_mono (Kd.R_far (p := ⟨gb249, 3, none⟩) (Kd.R_far (p := ⟨gb249, 2, none⟩) (Kd.R_far (p := ⟨gb249, 1, none⟩) (Kd.R_far (p := ⟨gb249, 0, none⟩) (Kd.R_far (p := ⟨gb282, 3, none⟩) (Kd.R_far (p := ⟨gb282, 2, none⟩) (Kd.R_far (p := ⟨gb282, 1, none⟩) (Kd.R_far (p := ⟨gb282, 0, none⟩) (Kd.R_types (Kd.R_types HO279.out BK282.out (by decide)) BK249.out (by decide)) (fun _ hk => hk.1.2) (.int .i64 t270)) (fun _ hk => hk.1.2) (.slice Ao49 t271.length co49)) (fun _ hk => hk.1.2) (.slice Ao51 t274.length co51)) (fun _ hk => hk.1.2) (.slice Ao53 t277.length co53)) (fun _ hk => hk.2) (.int .i64 t270)) (fun _ hk => hk.2) (.slice Ao49 t271.length co49)) (fun _ hk => hk.2) (.slice Ao51 t274.length co51)) (fun _ hk => hk.2) (.slice Ao53 t277.length co53)) (fun _ hk => hk.1.1)⟩, ⟨by (with_reducible repeat (first | apply Kd.R_alloc | apply Kd.R_drewN | apply Kd.R_drew)); exact Kd.R_mono (Kd.R_far (p := ⟨gb249, 3, none⟩) (Kd.R_far (p := ⟨gb249, 2, none⟩) (Kd.R_far (p := ⟨gb249, 1, none⟩) (Kd.R_far (p := ⟨gb249, 0, none⟩) (Kd.R_far (p := ⟨gb282, 3, none⟩) (Kd.R_far (p := ⟨gb282, 2, none⟩) (Kd.R_far (p := ⟨gb282, 1, none⟩) (Kd.R_far (p := ⟨gb282, 0, none⟩) (Kd.R_types (Kd.R_types HO273.out BK282.out (by decide)) BK249.out (by decide)) (fun _ hk => hk.1.2) (.int .i64 t270)) (fun _ hk => hk.1.2) (.slice Ao49 t271.length co49)) (fun _ hk => hk.1.2) (.slice Ao51 t274.length co51)) (fun _ hk => hk.1.2) (.slice Ao53 t277.length co53)) (fun _ hk => hk.2) (.int .i64 t270)) (fun _ hk => hk.2) (.slice Ao49 t271.length co49)) (fun _ hk => hk.2) (.slice Ao51 t274.length co51)) (fun _ hk => hk.2) (.slice Ao53 t277.length co53)) (fun _ hk => hk.1.1)⟩, ⟨by (with_reducible repeat (first | apply Kd.R_alloc | apply Kd.R_drewN | apply Kd.R_drew)); exact Kd.R_mono (Kd.R_far (p := ⟨gb249, 3, none⟩) (Kd.R_far (p := ⟨gb249, 2, none⟩) (Kd.R_far (p := ⟨gb249, 1, none⟩) (Kd.R_far (p := ⟨gb249, 0, none⟩) (Kd.R_far (p := ⟨gb282, 3, none⟩) (Kd.R_far (p := ⟨gb282, 2, none⟩) (Kd.R_far (p := ⟨gb282, 1, none⟩) (Kd.R_far (p := ⟨gb282, 0, none⟩) (Kd.R_types (Kd.R_types HO276.out BK282.out (by decide)) BK249.out (by decide)) (fun _ hk => hk.1.2) (.int .i64 t270)) (fun _ hk => hk.1.2) (.slice Ao49 t271.length co49)) (fun _ hk => hk.1.2) (.slice Ao51 t274.length co51)) (fun _ hk => hk.1.2) (.slice Ao53 t277.length co53)) (fun _ hk => hk.2) (.int .i64 t270)) (fun _ hk => hk.2) (.slice Ao49 t271.length co49)) (fun _ hk => hk.2) (.slice Ao51 t274.length co51)) (fun _ hk => hk.2) (.slice Ao53 t277.length co53)) (fun _ hk => trivial)⟩, ⟨by (with_reducible repeat (first | apply Kd.R_alloc | apply Kd.R_drewN | apply Kd.R_drew)); exact Kd.R_mono (Kd.R_far (p := ⟨gb249, 3, none⟩) (Kd.R_far (p := ⟨gb249, 2, none⟩) (Kd.R_far (p := ⟨gb249, 1, none⟩) (Kd.R_far (p := ⟨gb249, 0, none⟩) (Kd.R_far (p := ⟨gb282, 3, none⟩) (Kd.R_far (p := ⟨gb282, 2, none⟩) (Kd.R_far (p := ⟨gb282, 1, none⟩) (Kd.R_far (p := ⟨gb282, 0, none⟩) (Kd.R_types (Kd.R_types HO279.out BK282.out (by decide)) BK249.out (by decide)) (fun _ hk => hk.1.2) (.int .i64 t270)) (fun _ hk => hk.1.2) (.slice Ao49 t271.length co49)) (fun _ hk => hk.1.2) (.slice Ao51 t274.length co51)) (fun _ hk => hk.1.2) (.slice Ao53 t277.length co53)) (fun _ hk => hk.2) (.int .i64 t270)) (fun _ hk => hk.2) (.slice Ao49 t271.length co49)) (fun _ hk => hk.2) (.slice Ao51 t274.length co51)) (fun _ hk => hk.2) (.slice Ao53 t277.length co53)) (fun _ hk => hk.1.1)⟩, ⟨by (with_reducible repeat (first | refine blk_drewN ?_ _ | refine blk_drew ?_ | refine blk_alloc ?_ _)); refine blk_put (cs := #[.int .i64 t270, .slice Ao49 t271.length co49, .slice Ao51 t274.length co51, .slice Ao43 x250003_1.length co43]) ?_ 3 _ rfl; (with_reducible repeat (first | refine blk_drewN ?_ _ | refine blk_drew ?_ | refine blk_alloc ?_ _)); refine blk_put (cs := #[.int .i64 t270, .slice Ao49 t271.length co49, .slice Ao42 x250002_1.length co42, .slice Ao43 x250003_1.length co43]) ?_ 2 _ rfl; (with_reducible repeat (first | refine blk_drewN ?_ _ | refine blk_drew ?_ | refine blk_alloc ?_ _)); refine blk_put (cs := #[.int .i64 t270, .slice Ao41 x250001_1.length co41, .slice Ao42 x250002_1.length co42, .slice Ao43 x250003_1.length co43]) ?_ 1 _ rfl; (with_reducible repeat (first | refine blk_drewN ?_ _ | refine blk_drew ?_ | refine blk_alloc ?_ _)); refine blk_put (cs := #[.int .i64 x250000_1, .slice Ao41 x250001_1.length co41, .slice Ao42 x250002_1.length co42, .slice Ao43 x250003_1.length co43]) ?_ 0 _ rfl; (with_reducible repeat (first | refine blk_drewN ?_ _ | refine blk_drew ?_ | refine blk_alloc ?_ _)); refine blk_far ?_ NB249_282.out _; (with_reducible repeat (first | refine blk_drewN ?_ _ | refine blk_drew ?_ | refine blk_alloc ?_ _)); refine blk_far ?_ NB249_282.out _; (with_reducible repeat (first | refine blk_drewN ?_ _ | refine blk_drew ?_ | refine blk_alloc ?_ _)); refine blk_far ?_ NB249_282.out _; (with_reducible repeat (first | refine blk_drewN ?_ _ | refine blk_drew ?_ | refine blk_alloc ?_ _)); refine blk_far ?_ NB249_282.out _; (with_reducible repeat (first | refine blk_drewN ?_ _ | refine blk_drew ?_ | refine blk_alloc ?_ _)); exact BK249.out⟩, ⟨by (with_reducible repeat (first | refine blk_drewN ?_ _ | refine blk_drew ?_ | refine blk_alloc ?_ _)); refine blk_far ?_ NB282_249.out _; (with_reducible repeat (first | refine blk_drewN ?_ _ | refine blk_drew ?_ | refine blk_alloc ?_ _)); refine blk_far ?_ NB282_249.out _; (with_reducible repeat (first | refine blk_drewN ?_ _ | refine blk_drew ?_ | refine blk_alloc ?_ _)); refine blk_far ?_ NB282_249.out _; (with_reducible repeat (first | refine blk_drewN ?_ _ | refine blk_drew ?_ | refine blk_alloc ?_ _)); refine blk_far ?_ NB282_249.out _; (with_reducible repeat (first | refine blk_drewN ?_ _ | refine blk_drew ?_ | refine blk_alloc ?_ _)); refine blk_put (cs := #[.int .i64 t270, .slice Ao49 t271.length co49, .slice Ao51 t274.length co51, .slice none 0 0]) ?_ 3 _ rfl; (with_reducible repeat (first | refine blk_drewN ?_ _ | refine blk_drew ?_ | refine blk_alloc ?_ _)); refine blk_put (cs := #[.int .i64 t270, .slice Ao49 t271.length co49, .slice none 0 0, .slice none 0 0]) ?_ 2 _ rfl; (with_reducible repeat (first | refine blk_drewN ?_ _ | refine blk_drew ?_ | refine blk_alloc ?_ _)); refine blk_put (cs := #[.int .i64 t270, .slice none 0 0, .slice none 0 0, .slice none 0 0]) ?_ 1 _ rfl; (with_reducible repeat (first | refine blk_drewN ?_ _ | refine blk_drew ?_ | refine blk_alloc ?_ _)); refine blk_put (cs := #[.int .i64 0, .slice none 0 0, .slice none 0 0, .slice none 0 0]) ?_ 0 _ rfl; (with_reducible repeat (first | refine blk_drewN ?_ _ | refine blk_drew ?_ | refine blk_alloc ?_ _)); exact BK282.out⟩, ⟨by repeat (first | (with_reducible first | exact HB.out | apply below_alloc | apply pw_below_drewN | apply below_drew1 | refine below_set ?_ GE249.out | refine below_set ?_ GE282.out) | exact HB.out)⟩⟩
                      · rw [if_neg c58] at H
                        have c58b0 : ((t280 != 0) != (decide ((x8_1.length : Int) > 0))) = false := by simpa using c58
                        (try (have c58b0n := c58b0; rw [show decide ((x8_1.length : Int) > 0) = decide (0 < x8_1.length) from decide_eq_decide.2 (by omega)] at c58b0n))
                        (try (have c58b1 : decide ((t280 != 0) = (decide ((x8_1.length : Int) > 0))) = true := by simpa using c58))
                        (try (have c58b1n := c58b1; rw [show decide ((x8_1.length : Int) > 0) = decide (0 < x8_1.length) from decide_eq_decide.2 (by omega)] at c58b1n))
                        (try (have c58b2 : ((t280 != 0) == (decide ((x8_1.length : Int) > 0))) = true := by simpa using c58))
                        (try (have c58b2n := c58b2; rw [show decide ((x8_1.length : Int) > 0) = decide (0 < x8_1.length) from decide_eq_decide.2 (by omega)] at c58b2n))
                        clear c58
                        (first | rw [c58b0] | (simp only [i64_w, i32_w]; rw [c58b0]) | skip)
                        by_cases c60 : t280 = 0
                        · rw [if_pos c60] at H
                          have c60b0 : (t280 == 0) = true := beq_iff_eq.mpr c60
                          have c60b1 : (t280 != 0) = false := bne_eq_false_iff_eq.mpr c60
                          clear c60
                          have H' := Aside0.mk H
                          clear H
                          obtain ⟨Ao61, co61, eo61, _⟩ := Kd.Q_slice HO_8.out
                          subst eo61
                          have hz_ : x8_1 = [] := by
                            have hc := c58b0
                            rw [c60b1] at hc
                            cases x8_1 with
                            | nil => rfl
                            | cons a_ l_ => first | (simp at hc; done) | (simp at hc; omega)
                          subst hz_
                          go_wp2
                          go_meet
                          case rel => exact ⟨_, (false), (by first | rfl | (simp; done) | (simp [*]; done)), H', ⟨by have := HK1.out; have := HJ6.out; first | omega | exact Nat.le_refl _⟩, ⟨by (with_reducible repeat (first | apply Kd.R_alloc | apply Kd.R_drewN | apply Kd.R_drew)); exact Kd.R_mono (Kd.R_far (p := ⟨gb249, 3, none⟩) (Kd.R_far (p := ⟨gb249, 2, none⟩) (Kd.R_far (p := ⟨gb249, 1, none⟩) (Kd.R_far (p := ⟨gb249, 0, none⟩) (Kd.R_far (p := ⟨gb282, 3, none⟩) (Kd.R_far (p := ⟨gb282, 2, none⟩) (Kd.R_far (p := ⟨gb282, 1, none⟩) (Kd.R_far (p := ⟨gb282, 0, none⟩) (Kd.R_types (Kd.R_types HO_7.out BK282.out (by decide)) BK249.out (by decide)) (fun _ hk => hk.1.2) (.int .i64 t270)) (fun _ hk => hk.1.2) (.slice Ao49 t271.length co49)) (fun _ hk => hk.1.2) (.slice Ao51 t274.length co51)) (fun _ hk => hk.1.2) (.slice Ao53 t277.length co53)) (fun _ hk => hk.2) (.int .i64 t270)) (fun _ hk => hk.2) (.slice Ao49 t271.length co49)) (fun _ hk => hk.2) (.slice Ao51 t274.length co51)) (fun _ hk => hk.2) (.slice Ao53 t277.length co53)) (fun _ hk => ⟨hk.1.1, hk.1.1⟩)⟩, ⟨by (with_reducible repeat (first | apply Kd.Q_alloc | apply Kd.Q_drewN | apply Kd.Q_drew)); exact Kd.Q_mono (Kd.Q_far (p := ⟨gb249, 3, none⟩) (Kd.Q_far (p := ⟨gb249, 2, none⟩) (Kd.Q_far (p := ⟨gb249, 1, none⟩) (Kd.Q_far (p := ⟨gb249, 0, none⟩) (Kd.Q_far (p := ⟨gb282, 3, none⟩) (Kd.Q_far (p := ⟨gb282, 2, none⟩) (Kd.Q_far (p := ⟨gb282, 1, none⟩) (Kd.Q_far (p := ⟨gb282, 0, none⟩) (Kd.Q_types (Kd.Q_types HO_8.out BK282.out (by decide)) BK249.out (by decide)) (fun _ hk => hk.1.2) (.int .i64 t270)) (fun _ hk => hk.1.2) (.slice Ao49 t271.length co49)) (fun _ hk => hk.1.2) (.slice Ao51 t274.length co51)) (fun _ hk => hk.1.2) (.slice Ao53 t277.length co53)) (fun _ hk => hk.2) (.int .i64 t270)) (fun _ hk => hk.2) (.slice Ao49 t271.length co49)) (fun _ hk => hk.2) (.slice Ao51 t274.length co51)) (fun _ hk => hk.2) (.slice Ao53 t277.length co53)) (fun _ hk => ⟨hk.1.1, hk.1.1⟩)⟩, ⟨by (with_reducible repeat (first | apply Kd.R_alloc | apply Kd.R_drewN | apply Kd.R_drew)); exact Kd.R_mono (Kd.R_far (p := ⟨gb249, 3, none⟩) (Kd.R_far (p := ⟨gb249, 2, none⟩) (Kd.R_far (p := ⟨gb249, 1, none⟩) (Kd.R_far (p := ⟨gb249, 0, none⟩) (Kd.R_far (p := ⟨gb282, 3, none⟩) (Kd.R_far (p := ⟨gb282, 2, none⟩) (Kd.R_far (p := ⟨gb282, 1, none⟩) (Kd.R_far (p := ⟨gb282, 0, none⟩) (Kd.R_types (Kd.R_types HO273.out BK282.out (by decide)) BK249.out (by decide)) (fun _ hk => hk.1.2) (.int .i64 t270)) (fun _ hk => hk.1.2) (.slice Ao49 t271.length co49)) (fun _ hk => hk.1.2) (.slice Ao51 t274.length co51)) (fun _ hk => hk.1.2) (.slice Ao53 t277.length co53)) (fun _ hk => hk.2) (.int .i64 t270)) (fun _ hk => hk.2) (.slice Ao49 t271.length co49)) (fun _ hk => hk.2) (.slice Ao51 t274.length co51)) (fun _ hk => hk.2) (.slice Ao53 t277.length co53)) (fun _ hk => hk.1.1)⟩, ⟨by (with_reducible repeat (first | apply Kd.R_alloc | apply Kd.R_drewN | apply Kd.R_drew)); exact Kd.R_mono (Kd.R_far (p := ⟨gb249, 3, none⟩) (Kd.R_far (p := ⟨gb249, 2, none⟩) (Kd.R_far (p := ⟨gb249, 1, none⟩) (Kd.R_far (p := ⟨gb249, 0, none⟩) (Kd.R_far (p := ⟨gb282, 3, none⟩) (Kd.R_far (p := ⟨gb282, 2, none⟩) (Kd.R_far (p := ⟨gb282, 1, none⟩) (Kd.R_far (p := ⟨gb282, 0, none⟩) (Kd.R_types (Kd.R_types HO276.out BK282.out (by decide)) BK249.out (by decide)) (fun _ hk => hk.1.2) (.int .i64 t270)) (fun _ hk => hk.1.2) (.slice Ao49 t271.length co49)) (fun _ hk => hk.1.2) (.slice Ao51 t274.length co51)) (fun _ hk => hk.1.2) (.slice Ao53 t277.length co53)) (fun _ hk => hk.2) (.int .i64 t270)) (fun _ hk => hk.2) (.slice Ao49 t271.length co49)) (fun _ hk => hk.2) (.slice Ao51 t274.length co51)) (fun _ hk => hk.2) (.slice Ao53 t277.length co53)) (fun _ hk => trivial)⟩, ⟨by (with_reducible repeat (first | apply Kd.R_alloc | apply Kd.R_drewN | apply Kd.R_drew)); exact Kd.R_mono (Kd.R_far (p := ⟨gb249, 3, none⟩) (Kd.R_far (p := ⟨gb249, 2, none⟩) (Kd.R_far (p := ⟨gb249, 1, none⟩) (Kd.R_far (p := ⟨gb249, 0, none⟩) (Kd.R_far (p := ⟨gb282, 3, none⟩) (Kd.R_far (p := ⟨gb282, 2, none⟩) (Kd.R_far (p := ⟨gb282, 1, none⟩) (Kd.R_far (p := ⟨gb282, 0, none⟩) (Kd.R_types (Kd.R_types HO279.out BK282.out (by decide)) BK249.out (by decide)) (fun _ hk => hk.1.2) (.int .i64 t270)) (fun _ hk => hk.1.2) (.slice Ao49 t271.length co49)) (fun _ hk => hk.1.2) (.slice Ao51 t274.length co51)) (fun _ hk => hk.1.2) (.slice Ao53 t277.length co53)) (fun _ hk => hk.2) (.int .i64 t270)) (fun _ hk => hk.2) (.slice Ao49 t271.length co49)) (fun _ hk => hk.2) (.slice Ao51 t274.length co51)) (fun _ hk => hk.2) (.slice Ao53 t277.length co53)) (fun _ hk => hk.1.1)⟩, ⟨by (with_reducible repeat (first | apply Kd.R_alloc | apply Kd.R_drewN | apply Kd.R_drew)); exact Kd.R_mono (Kd.R_far (p := ⟨gb249, 3, none⟩) (Kd.R_far (p := ⟨gb249, 2, none⟩) (Kd.R_far (p := ⟨gb249, 1, none⟩) (Kd.R_far (p := ⟨gb249, 0, none⟩) (Kd.R_far (p := ⟨gb282, 3, none⟩) (Kd.R_far (p := ⟨gb282, 2, none⟩) (Kd.R_far (p := ⟨gb282, 1, none⟩) (Kd.R_far (p := ⟨gb282, 0, none⟩) (Kd.R_types (Kd.R_types HO273.out BK282.out (by decide)) BK249.out (by decide)) (fun _ hk => hk.1.2) (.int .i64 t270)) (fun _ hk => hk.1.2) (.slice Ao49 t271.length co49)) (fun _ hk => hk.1.2) (.slice Ao51 t274.length co51)) (fun _ hk => hk.1.2) (.slice Ao53 t277.length co53)) (fun _ hk => hk.2) (.int .i64 t270)) (fun _ hk => hk.2) (.slice Ao49 t271.length co49)) (fun _ hk => hk.2) (.slice Ao51 t274.length co51)) (fun _ hk => hk.2) (.slice Ao53 t277.length co53)) (fun _ hk => hk.1.1)⟩, ⟨by (with_reducible repeat (first | apply Kd.R_alloc | apply Kd.R_drewN | apply Kd.R_drew)); exact Kd.R_mono (Kd.R_far (p := ⟨gb249, 3, none⟩) (Kd.R_far (p := ⟨gb249, 2, none⟩) (Kd.R_far (p := ⟨gb249, 1, none⟩) (Kd.R_far (p := ⟨gb249, 0, none⟩) (Kd.R_far (p := ⟨gb282, 3, none⟩) (Kd.R_far (p := ⟨gb282, 2, none⟩) (Kd.R_far (p := ⟨gb282, 1, none⟩) (Kd.R_far (p := ⟨gb282, 0, none⟩) (Kd.R_types (Kd.R_types HO276.out BK282.out (by decide)) BK249.out (by decide)) (fun _ hk => hk.1.2) (.int .i64 t270)) (fun _ hk => hk.1.2) (.slice Ao49 t271.length co49)) (fun _ hk => hk.1.2) (.slice Ao51 t274.length co51)) (fun _ hk => hk.1.2) (.slice Ao53 t277.length co53)) (fun _ hk => hk.2) (.int .i64 t270)) (fun _ hk => hk.2) (.slice Ao49 t271.length co49)) (fun _ hk => hk.2) (.slice Ao51 t274.length co51)) (fun _ hk => hk.2) (.slice Ao53 t277.length co53)) (fun _ hk => trivial)⟩, ⟨by (with_reducible repeat (first | apply Kd.R_alloc | apply Kd.R_drewN | apply Kd.R_drew)); exact Kd.R_mono (Kd.R_far (p := ⟨gb249, 3, none⟩) (Kd.R_far (p := ⟨gb249, 2, none⟩) (Kd.R_far (p := ⟨gb249, 1, none⟩) (Kd.R_far (p := ⟨gb249, 0, none⟩) (Kd.R_far (p := ⟨gb282, 3, none⟩) (Kd.R_far (p := ⟨gb282, 2, none⟩) (Kd.R_far (p := ⟨gb282, 1, none⟩) (Kd.R_far (p := ⟨gb282, 0, none⟩) (Kd.R_types (Kd.R_types HO279.out BK282.out (by decide)) BK249.out (by decide)) (fun _ hk => hk.1.2) (.int .i64 t270)) (fun _ hk => hk.1.2) (.slice Ao49 t271.length co49)) (fun _ hk => hk.1.2) (.slice Ao51 t274.length co51)) (fun _ hk => hk.1.2) (.slice Ao53 t277.length co53)) (fun _ hk => hk.2) (.int .i64 t270)) (fun _ hk => hk.2) (.slice Ao49 t271.length co49)) (fun _ hk => hk.2) (.slice Ao51 t274.length co51)) (fun _ hk => hk.2) (.slice Ao53 t277.length co53)) (fun _ hk => hk.1.1)⟩, ⟨by (with_reducible repeat (first | refine blk_drewN ?_ _ | refine blk_drew ?_ | refine blk_alloc ?_ _)); refine blk_put (cs := #[.int .i64 t270, .slice Ao49 t271.length co49, .slice Ao51 t274.length co51, .slice Ao43 x250003_1.length co43]) ?_ 3 _ rfl; (with_reducible repeat (first | refine blk_drewN ?_ _ | refine blk_drew ?_ | refine blk_alloc ?_ _)); refine blk_put (cs := #[.int .i64 t270, .slice Ao49 t271.length co49, .slice Ao42 x250002_1.length co42, .slice Ao43 x250003_1.length co43]) ?_ 2 _ rfl; (with_reducible repeat (first | refine blk_drewN ?_ _ | refine blk_drew ?_ | refine blk_alloc ?_ _)); refine blk_put (cs := #[.int .i64 t270, .slice Ao41 x250001_1.length co41, .slice Ao42 x250002_1.length co42, .slice Ao43 x250003_1.length co43]) ?_ 1 _ rfl; (with_reducible repeat (first | refine blk_drewN ?_ _ | refine blk_drew ?_ | refine blk_alloc ?_ _)); refine blk_put (cs := #[.int .i64 x250000_1, .slice Ao41 x250001_1.length co41, .slice Ao42 x250002_1.length co42, .slice Ao43 x250003_1.length co43]) ?_ 0 _ rfl; (with_reducible repeat (first | refine blk_drewN ?_ _ | refine blk_drew ?_ | refine blk_alloc ?_ _)); refine blk_far ?_ NB249_282.out _; (with_reducible repeat (first | refine blk_drewN ?_ _ | refine blk_drew ?_ | refine blk_alloc ?_ _)); refine blk_far ?_ NB249_282.out _; (with_reducible repeat (first | refine blk_drewN ?_ _ | refine blk_drew ?_ | refine blk_alloc ?_ _)); refine blk_far ?_ NB249_282.out _; (with_reducible repeat (first | refine blk_drewN ?_ _ | refine blk_drew ?_ | refine blk_alloc ?_ _)); refine blk_far ?_ NB249_282.out _; (with_reducible repeat (first | refine blk_drewN ?_ _ | refine blk_drew ?_ | refine blk_alloc ?_ _)); exact BK249.out⟩, ⟨by (with_reducible repeat (first | refine blk_drewN ?_ _ | refine blk_drew ?_ | refine blk_alloc ?_ _)); refine blk_far ?_ NB282_249.out _; (with_reducible repeat (first | refine blk_drewN ?_ _ | refine blk_drew ?_ | refine blk_alloc ?_ _)); refine blk_far ?_ NB282_249.out _; (with_reducible repeat (first | refine blk_drewN ?_ _ | refine blk_drew ?_ | refine blk_alloc ?_ _)); refine blk_far ?_ NB282_249.out _; (with_reducible repeat (first | refine blk_drewN ?_ _ | refine blk_drew ?_ | refine blk_alloc ?_ _)); refine blk_far ?_ NB282_249.out _; (with_reducible repeat (first | refine blk_drewN ?_ _ | refine blk_drew ?_ | refine blk_alloc ?_ _)); refine blk_put (cs := #[.int .i64 t270, .slice Ao49 t271.length co49, .slice Ao51 t274.length co51, .slice none 0 0]) ?_ 3 _ rfl; (with_reducible repeat (first | refine blk_drewN ?_ _ | refine blk_drew ?_ | refine blk_alloc ?_ _)); refine blk_put (cs := #[.int .i64 t270, .slice Ao49 t271.length co49, .slice none 0 0, .slice none 0 0]) ?_ 2 _ rfl; (with_reducible repeat (first | refine blk_drewN ?_ _ | refine blk_drew ?_ | refine blk_alloc ?_ _)); refine blk_put (cs := #[.int .i64 t270, .slice none 0 0, .slice none 0 0, .slice none 0 0]) ?_ 1 _ rfl; (with_reducible repeat (first | refine blk_drewN ?_ _ | refine blk_drew ?_ | refine blk_alloc ?_ _)); refine blk_put (cs := #[.int .i64 0, .slice none 0 0, .slice none 0 0, .slice none 0 0]) ?_ 0 _ rfl; (with_reducible repeat (first | refine blk_drewN ?_ _ | refine blk_drew ?_ | refine blk_alloc ?_ _)); exact BK282.out⟩, ⟨by repeat (first | (with_reducible first | exact HB.out | apply below_alloc | apply pw_below_drewN | apply below_drew1 | refine below_set ?_ GE249.out | refine below_set ?_ GE282.out) | exact HB.out)⟩⟩
                        · rw [if_neg c60] at H
                          have c60b0 : (t280 == 0) = false := beq_eq_false_iff_ne.mpr c60
                          have c60b1 : (t280 != 0) = true := bne_iff_ne.mpr c60
                          by_cases c62 : 0 < (x8_1.length : Int)
                          · rw [if_pos c62] at H
                            have c62b0 : decide (0 < (x8_1.length : Int)) = true := decide_eq_true c62
                            have c62b1 : decide (0 < x8_1.length) = true := decide_eq_true (by omega)
                            clear c62
                            have H' := Aside0.mk H
                            clear H
                            obtain ⟨Ao63, co63, eo63, _⟩ := Kd.Q_slice HO_8.out
                            subst eo63
                            have p283 : 0 ≤ (0 : Int) := (by omega)
                            have q283 : 0 < (x8_1.length : Int) := of_decide_eq_true (by first | (with_reducible assumption) | assumption)
                            obtain ⟨ad283, e283, hx283_0⟩ := Kd.at_int (Kd.Q_reads' HO_8.out).2.2 0 p283 q283
                            cases e283
                            have qi283 : (0 < x8_1.length) = True := eq_true (by omega)
                            (try rw [show ((0 : Int)).toNat = 0 from rfl] at hx283_0)
                            (try rw [Addr.add_zero'] at hx283_0)
                            have hn283_0 : ad283.block ≠ gb282 := Kd.own_blk (Kd.Q_ne HO_8.out BK282.out (by decide))
                            have hn283_1 : ad283.block ≠ gb282 := Kd.own_blk (Kd.Q_ne HO_8.out BK282.out (by decide))
                            have hn283_2 : ad283.block ≠ gb282 := Kd.own_blk (Kd.Q_ne HO_8.out BK282.out (by decide))
                            have hn283_3 : ad283.block ≠ gb282 := Kd.own_blk (Kd.Q_ne HO_8.out BK282.out (by decide))
                            have hn283_4 : ad283.block ≠ gb249 := Kd.own_blk (Kd.Q_ne HO_8.out BK249.out (by decide))
                            have hn283_5 : ad283.block ≠ gb249 := Kd.own_blk (Kd.Q_ne HO_8.out BK249.out (by decide))
                            have hn283_6 : ad283.block ≠ gb249 := Kd.own_blk (Kd.Q_ne HO_8.out BK249.out (by decide))
                            have hn283_7 : ad283.block ≠ gb249 := Kd.own_blk (Kd.Q_ne HO_8.out BK249.out (by decide))
                            replace hx283_0 := (cell_far (p := ⟨gb282, 0, none⟩) (by first | (rw [add_block]; exact hn283_0) | (show (Addr.add _ _).block ≠ _; rw [add_block]; exact hn283_0) | exact hn283_0) (.int .i64 t270)).trans hx283_0
                            replace hx283_0 := (cell_far (p := ⟨gb282, 1, none⟩) (by first | (rw [add_block]; exact hn283_1) | (show (Addr.add _ _).block ≠ _; rw [add_block]; exact hn283_1) | exact hn283_1) (.slice Ao49 t271.length co49)).trans hx283_0
                            replace hx283_0 := (cell_far (p := ⟨gb282, 2, none⟩) (by first | (rw [add_block]; exact hn283_2) | (show (Addr.add _ _).block ≠ _; rw [add_block]; exact hn283_2) | exact hn283_2) (.slice Ao51 t274.length co51)).trans hx283_0
                            replace hx283_0 := (cell_far (p := ⟨gb282, 3, none⟩) (by first | (rw [add_block]; exact hn283_3) | (show (Addr.add _ _).block ≠ _; rw [add_block]; exact hn283_3) | exact hn283_3) (.slice Ao53 t277.length co53)).trans hx283_0
                            replace hx283_0 := (cell_far (p := ⟨gb249, 0, none⟩) (by first | (rw [add_block]; exact hn283_4) | (show (Addr.add _ _).block ≠ _; rw [add_block]; exact hn283_4) | exact hn283_4) (.int .i64 t270)).trans hx283_0
                            replace hx283_0 := (cell_far (p := ⟨gb249, 1, none⟩) (by first | (rw [add_block]; exact hn283_5) | (show (Addr.add _ _).block ≠ _; rw [add_block]; exact hn283_5) | exact hn283_5) (.slice Ao49 t271.length co49)).trans hx283_0
                            replace hx283_0 := (cell_far (p := ⟨gb249, 2, none⟩) (by first | (rw [add_block]; exact hn283_6) | (show (Addr.add _ _).block ≠ _; rw [add_block]; exact hn283_6) | exact hn283_6) (.slice Ao51 t274.length co51)).trans hx283_0
                            replace hx283_0 := (cell_far (p := ⟨gb249, 3, none⟩) (by first | (rw [add_block]; exact hn283_7) | (show (Addr.add _ _).block ≠ _; rw [add_block]; exact hn283_7) | exact hn283_7) (.slice Ao53 t277.length co53)).trans hx283_0
                            clear hn283_0
                            clear hn283_1
                            clear hn283_2
                            clear hn283_3
                            clear hn283_4
                            clear hn283_5
                            clear hn283_6
                            clear hn283_7
                            replace p283 := eq_true p283
                            replace q283 := eq_true q283
                            go_wp2
                            go_meet
                            case rel => exact ⟨_, ((t280 != (rd x8_1 0))), (by first | rfl | (simp; done) | (simp [*]; done)), H', ⟨by have := HK1.out; have := HJ6.out; first | omega | exact Nat.le_refl _⟩, ⟨by (with_reducible repeat (first | apply Kd.R_alloc | apply Kd.R_drewN | apply Kd.R_drew)); exact Kd.R_mono (Kd.R_far (p := ⟨gb249, 3, none⟩) (Kd.R_far (p := ⟨gb249, 2, none⟩) (Kd.R_far (p := ⟨gb249, 1, none⟩) (Kd.R_far (p := ⟨gb249, 0, none⟩) (Kd.R_far (p := ⟨gb282, 3, none⟩) (Kd.R_far (p := ⟨gb282, 2, none⟩) (Kd.R_far (p := ⟨gb282, 1, none⟩) (Kd.R_far (p := ⟨gb282, 0, none⟩) (Kd.R_types (Kd.R_types HO_7.out BK282.out (by decide)) BK249.out (by decide)) (fun _ hk => hk.1.2) (.int .i64 t270)) (fun _ hk => hk.1.2) (.slice Ao49 t271.length co49)) (fun _ hk => hk.1.2) (.slice Ao51 t274.length co51)) (fun _ hk => hk.1.2) (.slice Ao53 t277.length co53)) (fun _ hk => hk.2) (.int .i64 t270)) (fun _ hk => hk.2) (.slice Ao49 t271.length co49)) (fun _ hk => hk.2) (.slice Ao51 t274.length co51)) (fun _ hk => hk.2) (.slice Ao53 t277.length co53)) (fun _ hk => ⟨hk.1.1, hk.1.1⟩)⟩, ⟨by (with_reducible repeat (first | apply Kd.Q_alloc | apply Kd.Q_drewN | apply Kd.Q_drew)); exact Kd.Q_mono (Kd.Q_far (p := ⟨gb249, 3, none⟩) (Kd.Q_far (p := ⟨gb249, 2, none⟩) (Kd.Q_far (p := ⟨gb249, 1, none⟩) (Kd.Q_far (p := ⟨gb249, 0, none⟩) (Kd.Q_far (p := ⟨gb282, 3, none⟩) (Kd.Q_far (p := ⟨gb282, 2, none⟩) (Kd.Q_far (p := ⟨gb282, 1, none⟩) (Kd.Q_far (p := ⟨gb282, 0, none⟩) (Kd.Q_types (Kd.Q_types HO_8.out BK282.out (by decide)) BK249.out (by decide)) (fun _ hk => hk.1.2) (.int .i64 t270)) (fun _ hk => hk.1.2) (.slice Ao49 t271.length co49)) (fun _ hk => hk.1.2) (.slice Ao51 t274.length co51)) (fun _ hk => hk.1.2) (.slice Ao53 t277.length co53)) (fun _ hk => hk.2) (.int .i64 t270)) (fun _ hk => hk.2) (.slice Ao49 t271.length co49)) (fun _ hk => hk.2) (.slice Ao51 t274.length co51)) (fun _ hk => hk.2) (.slice Ao53 t277.length co53)) (fun _ hk => ⟨hk.1.1, hk.1.1⟩)⟩, ⟨by (with_reducible repeat (first | apply Kd.R_alloc | apply Kd.R_drewN | apply Kd.R_drew)); exact Kd.R_mono (Kd.R_far (p := ⟨gb249, 3, none⟩) (Kd.R_far (p := ⟨gb249, 2, none⟩) (Kd.R_far (p := ⟨gb249, 1, none⟩) (Kd.R_far (p := ⟨gb249, 0, none⟩) (Kd.R_far (p := ⟨gb282, 3, none⟩) (Kd.R_far (p := ⟨gb282, 2, none⟩) (Kd.R_far (p := ⟨gb282, 1, none⟩) (Kd.R_far (p := ⟨gb282, 0, none⟩) (Kd.R_types (Kd.R_types HO273.out BK282.out (by decide)) BK249.out (by decide)) (fun _ hk => hk.1.2) (.int .i64 t270)) (fun _ hk => hk.1.2) (.slice Ao49 t271.length co49)) (fun _ hk => hk.1.2) (.slice Ao51 t274.length co51)) (fun _ hk => hk.1.2) (.slice Ao53 t277.length co53)) (fun _ hk => hk.2) (.int .i64 t270)) (fun _ hk => hk.2) (.slice Ao49 t271.length co49)) (fun _ hk => hk.2) (.slice Ao51 t274.length co51)) (fun _ hk => hk.2) (.slice Ao53 t277.length co53)) (fun _ hk => hk.1.1)⟩, ⟨by (with_reducible repeat (first | apply Kd.R_alloc | apply Kd.R_drewN | apply Kd.R_drew)); exact Kd.R_mono (Kd.R_far (p := ⟨gb249, 3, none⟩) (Kd.R_far (p := ⟨gb249, 2, none⟩) (Kd.R_far (p := ⟨gb249, 1, none⟩) (Kd.R_far (p := ⟨gb249, 0, none⟩) (Kd.R_far (p := ⟨gb282, 3, none⟩) (Kd.R_far (p := ⟨gb282, 2, none⟩) (Kd.R_far (p := ⟨gb282, 1, none⟩) (Kd.R_far (p := ⟨gb282, 0, none⟩) (Kd.R_types (Kd.R_types HO276.out BK282.out (by decide)) BK249.out (by decide)) (fun _ hk => hk.1.2) (.int .i64 t270)) (fun _ hk => hk.1.2) (.slice Ao49 t271.length co49)) (fun _ hk => hk.1.2) (.slice Ao51 t274.length co51)) (fun _ hk => hk.1.2) (.slice Ao53 t277.length co53)) (fun _ hk => hk.2) (.int .i64 t270)) (fun _ hk => hk.2) (.slice Ao49 t271.length co49)) (fun _ hk => hk.2) (.slice Ao51 t274.length co51)) (fun _ hk => hk.2) (.slice Ao53 t277.length co53)) (fun _ hk => trivial)⟩, ⟨by (with_reducible repeat (first | apply Kd.R_alloc | apply Kd.R_drewN | apply Kd.R_drew)); exact Kd.R_mono (Kd.R_far (p := ⟨gb249, 3, none⟩) (Kd.R_far (p := ⟨gb249, 2, none⟩) (Kd.R_far (p := ⟨gb249, 1, none⟩) (Kd.R_far (p := ⟨gb249, 0, none⟩) (Kd.R_far (p := ⟨gb282, 3, none⟩) (Kd.R_far (p := ⟨gb282, 2, none⟩) (Kd.R_far (p := ⟨gb282, 1, none⟩) (Kd.R_far (p := ⟨gb282, 0, none⟩) (Kd.R_types (Kd.R_types HO279.out BK282.out (by decide)) BK249.out (by decide)) (fun _ hk => hk.1.2) (.int .i64 t270)) (fun _ hk => hk.1.2) (.slice Ao49 t271.length co49)) (fun _ hk => hk.1.2) (.slice Ao51 t274.length co51)) (fun _ hk => hk.1.2) (.slice Ao53 t277.length co53)) (fun _ hk => hk.2) (.int .i64 t270)) (fun _ hk => hk.2) (.slice Ao49 t271.length co49)) (fun _ hk => hk.2) (.slice Ao51 t274.length co51)) (fun _ hk => hk.2) (.slice Ao53 t277.length co53)) (fun _ hk => hk.1.1)⟩, ⟨by (with_reducible repeat (first | apply Kd.R_alloc | apply Kd.R_drewN | apply Kd.R_drew)); exact Kd.R_mono (Kd.R_far (p := ⟨gb249, 3, none⟩) (Kd.R_far (p := ⟨gb249, 2, none⟩) (Kd.R_far (p := ⟨gb249, 1, none⟩) (Kd.R_far (p := ⟨gb249, 0, none⟩) (Kd.R_far (p := ⟨gb282, 3, none⟩) (Kd.R_far (p := ⟨gb282, 2, none⟩) (Kd.R_far (p := ⟨gb282, 1, none⟩) (Kd.R_far (p := ⟨gb282, 0, none⟩) (Kd.R_types (Kd.R_types HO273.out BK282.out (by decide)) BK249.out (by decide)) (fun _ hk => hk.1.2) (.int .i64 t270)) (fun _ hk => hk.1.2) (.slice Ao49 t271.length co49)) (fun _ hk => hk.1.2) (.slice Ao51 t274.length co51)) (fun _ hk => hk.1.2) (.slice Ao53 t277.length co53)) (fun _ hk => hk.2) (.int .i64 t270)) (fun _ hk => hk.2) (.slice Ao49 t271.length co49)) (fun _ hk => hk.2) (.slice Ao51 t274.length co51)) (fun _ hk => hk.2) (.slice Ao53 t277.length co53)) (fun _ hk => hk.1.1)⟩, ⟨by (with_reducible repeat (first | apply Kd.R_alloc | apply Kd.R_drewN | apply Kd.R_drew)); exact Kd.R_mono (Kd.R_far (p := ⟨gb249, 3, none⟩) (Kd.R_far (p := ⟨gb249, 2, none⟩) (Kd.R_far (p := ⟨gb249, 1, none⟩) (Kd.R_far (p := ⟨gb249, 0, none⟩) (Kd.R_far (p := ⟨gb282, 3, none⟩) (Kd.R_far (p := ⟨gb282, 2, none⟩) (Kd.R_far (p := ⟨gb282, 1, none⟩) (Kd.R_far (p := ⟨gb282, 0, none⟩) (Kd.R_types (Kd.R_types HO276.out BK282.out (by decide)) BK249.out (by decide)) (fun _ hk => hk.1.2) (.int .i64 t270)) (fun _ hk => hk.1.2) (.slice Ao49 t271.length co49)) (fun _ hk => hk.1.2) (.slice Ao51 t274.length co51)) (fun _ hk => hk.1.2) (.slice Ao53 t277.length co53)) (fun _ hk => hk.2) (.int .i64 t270)) (fun _ hk => hk.2) (.slice Ao49 t271.length co49)) (fun _ hk => hk.2) (.slice Ao51 t274.length co51)) (fun _ hk => hk.2) (.slice Ao53 t277.length co53)) (fun _ hk => trivial)⟩, ⟨by (with_reducible repeat (first | apply Kd.R_alloc | apply Kd.R_drewN | apply Kd.R_drew)); exact Kd.R_mono (Kd.R_far (p := ⟨gb249, 3, none⟩) (Kd.R_far (p := ⟨gb249, 2, none⟩) (Kd.R_far (p := ⟨gb249, 1, none⟩) (Kd.R_far (p := ⟨gb249, 0, none⟩) (Kd.R_far (p := ⟨gb282, 3, none⟩) (Kd.R_far (p := ⟨gb282, 2, none⟩) (Kd.R_far (p := ⟨gb282, 1, none⟩) (Kd.R_far (p := ⟨gb282, 0, none⟩) (Kd.R_types (Kd.R_types HO279.out BK282.out (by decide)) BK249.out (by decide)) (fun _ hk => hk.1.2) (.int .i64 t270)) (fun _ hk => hk.1.2) (.slice Ao49 t271.length co49)) (fun _ hk => hk.1.2) (.slice Ao51 t274.length co51)) (fun _ hk => hk.1.2) (.slice Ao53 t277.length co53)) (fun _ hk => hk.2) (.int .i64 t270)) (fun _ hk => hk.2) (.slice Ao49 t271.length co49)) (fun _ hk => hk.2) (.slice Ao51 t274.length co51)) (fun _ hk => hk.2) (.slice Ao53 t277.length co53)) (fun _ hk => hk.1.1)⟩, ⟨by (with_reducible repeat (first | refine blk_drewN ?_ _ | refine blk_drew ?_ | refine blk_alloc ?_ _)); refine blk_put (cs := #[.int .i64 t270, .slice Ao49 t271.length co49, .slice Ao51 t274.length co51, .slice Ao43 x250003_1.length co43]) ?_ 3 _ rfl; (with_reducible repeat (first | refine blk_drewN ?_ _ | refine blk_drew ?_ | refine blk_alloc ?_ _)); refine blk_put (cs := #[.int .i64 t270, .slice Ao49 t271.length co49, .slice Ao42 x250002_1.length co42, .slice Ao43 x250003_1.length co43]) ?_ 2 _ rfl; (with_reducible repeat (first | refine blk_drewN ?_ _ | refine blk_drew ?_ | refine blk_alloc ?_ _)); refine blk_put (cs := #[.int .i64 t270, .slice Ao41 x250001_1.length co41, .slice Ao42 x250002_1.length co42, .slice Ao43 x250003_1.length co43]) ?_ 1 _ rfl; (with_reducible repeat (first | refine blk_drewN ?_ _ | refine blk_drew ?_ | refine blk_alloc ?_ _)); refine blk_put (cs := #[.int .i64 x250000_1, .slice Ao41 x250001_1.length co41, .slice Ao42 x250002_1.length co42, .slice Ao43 x250003_1.length co43]) ?_ 0 _ rfl; (with_reducible repeat (first | refine blk_drewN ?_ _ | refine blk_drew ?_ | refine blk_alloc ?_ _)); refine blk_far ?_ NB249_282.out _; (with_reducible repeat (first | refine blk_drewN ?_ _ | refine blk_drew ?_ | refine blk_alloc ?_ _)); refine blk_far ?_ NB249_282.out _; (with_reducible repeat (first | refine blk_drewN ?_ _ | refine blk_drew ?_ | refine blk_alloc ?_ _)); refine blk_far ?_ NB249_282.out _; (with_reducible repeat (first | refine blk_drewN ?_ _ | refine blk_drew ?_ | refine blk_alloc ?_ _)); refine blk_far ?_ NB249_282.out _; (with_reducible repeat (first | refine blk_drewN ?_ _ | refine blk_drew ?_ | refine blk_alloc ?_ _)); exact BK249.out⟩, ⟨by (with_reducible repeat (first | refine blk_drewN ?_ _ | refine blk_drew ?_ | refine blk_alloc ?_ _)); refine blk_far ?_ NB282_249.out _; (with_reducible repeat (first | refine blk_drewN ?_ _ | refine blk_drew ?_ | refine blk_alloc ?_ _)); refine blk_far ?_ NB282_249.out _; (with_reducible repeat (first | refine blk_drewN ?_ _ | refine blk_drew ?_ | refine blk_alloc ?_ _)); refine blk_far ?_ NB282_249.out _; (with_reducible repeat (first | refine blk_drewN ?_ _ | refine blk_drew ?_ | refine blk_alloc ?_ _)); refine blk_far ?_ NB282_249.out _; (with_reducible repeat (first | refine blk_drewN ?_ _ | refine blk_drew ?_ | refine blk_alloc ?_ _)); refine blk_put (cs := #[.int .i64 t270, .slice Ao49 t271.length co49, .slice Ao51 t274.length co51, .slice none 0 0]) ?_ 3 _ rfl; (with_reducible repeat (first | refine blk_drewN ?_ _ | refine blk_drew ?_ | refine blk_alloc ?_ _)); refine blk_put (cs := #[.int .i64 t270, .slice Ao49 t271.length co49, .slice none 0 0, .slice none 0 0]) ?_ 2 _ rfl; (with_reducible repeat (first | refine blk_drewN ?_ _ | refine blk_drew ?_ | refine blk_alloc ?_ _)); refine blk_put (cs := #[.int .i64 t270, .slice none 0 0, .slice none 0 0, .slice none 0 0]) ?_ 1 _ rfl; (with_reducible repeat (first | refine blk_drewN ?_ _ | refine blk_drew ?_ | refine blk_alloc ?_ _)); refine blk_put (cs := #[.int .i64 0, .slice none 0 0, .slice none 0 0, .slice none 0 0]) ?_ 0 _ rfl; (with_reducible repeat (first | refine blk_drewN ?_ _ | refine blk_drew ?_ | refine blk_alloc ?_ _)); exact BK282.out⟩, ⟨by repeat (first | (with_reducible first | exact HB.out | apply below_alloc | apply pw_below_drewN | apply below_drew1 | refine below_set ?_ GE249.out | refine below_set ?_ GE282.out) | exact HB.out)⟩⟩
                          · rw [if_neg c62] at H
                            exact absurd H (by simp)
                    case rest =>
                      clear HC40
                      try clear c1
                      try clear p2
                      try clear q2
                      try clear hx2
                      try clear qi2
                      try clear c3
                      try clear c5
                      try clear c6
                      try clear p6
                      try clear c13
                      try clear c13b0
                      try clear c13b1
                      try clear c15
                      try clear p26
                      try clear q26
                      try clear hx26
                      try clear p28
                      try clear q28
                      try clear hx28
                      try clear qi28
                      try clear c35
                      try clear c36
                      try clear c37
                      try clear c55
                      try clear c58
                      try clear c58b0
                      try clear c58b1
                      try clear c58b2
                      try clear c60
                      try clear c60b0
                      try clear c60b1
                      try clear c62
                      try clear c62b0
                      try clear c62b1
                      try clear hcz56_0
                      try clear hcz56_1
                      try clear hcz56_2
                      try clear hcz56_3
                      try clear hcz57_0
                      try clear hcz57_1
                      try clear hcz57_2
                      try clear hcz57_3
                      try clear hfz56_0
                      try clear hfz56_1
                      try clear hfz56_2
                      try clear hfz56_3
                      try clear hfz57_0
                      try clear hfz57_1
                      try clear hfz57_2
                      try clear hfz57_3
                      try clear hx269_0
                      try clear hx283_0
                      try clear p269
                      try clear p283
                      try clear q265
                      try clear q269
                      try clear q283
                      obtain ⟨kq, x102_39, rfl, HA, HJ39, HO_7, HO_8, HO_250001, HO_250002, HO_250003, HO_283001, HO_283002, HO_283003, BK249, BK282, HB⟩ := hcut
                      cases kq with
                      | zero => exact absurd HA.out (by simp [catafalquelaw11_BoxPlays.j3])
                      | succ kj39 =>
                        have H := HA.out
                        clear HA
                        simp only [catafalquelaw11_BoxPlays.j3] at H
                        by_cases c64 : x102_39 = true
                        · subst c64
                          have H1 : (some false) = some r := by rw [if_pos rfl] at H; exact H
                          clear H
                          have H := H1
                          clear H1
                          obtain rfl := Option.some.inj H
                          go_wp2
                          go_ret
                          exact ⟨by first | rfl | (simp [errW_none, errW_some] <;> rfl) | (simp [*, errW_none, errW_some] <;> rfl), by repeat (first | (with_reducible first | exact HB.out | apply below_alloc | apply pw_below_drewN | apply below_drew1 | refine below_set ?_ GE249.out | refine below_set ?_ GE282.out) | exact HB.out)⟩
                        · replace c64 := Bool.eq_false_iff.mpr c64
                          subst c64
                          have H1 : (if t280 = 0 then (if 0 ≤ x10_1 then (if x10_1 < (l1.length : Int) then (if x7_1.length < 17592186044416 then (catafalquelaw11_BoxPlays.j4 kj39 l1 t248 (x7_1 ++ [rd l1 x10_1]) x8_1 x9_1 x10_1 t270 t271 t274 t277) else (none)) else (none)) else (none)) else (if 1 ≤ (x8_1.length : Int) then (catafalquelaw11_BoxPlays.j4 kj39 l1 t248 x7_1 (x8_1.drop (1 : Int).toNat) x9_1 x10_1 t270 t271 t274 t277) else (none))) = some r := by rw [if_neg (show ¬ (false = true) by decide)] at H; exact H
                          clear H
                          have H := H1
                          clear H1
                          by_cases c65 : t280 = 0
                          · rw [if_pos c65] at H
                            have c65b0 : (t280 == 0) = true := beq_iff_eq.mpr c65
                            have c65b1 : (t280 != 0) = false := bne_eq_false_iff_eq.mpr c65
                            clear c65
                            by_cases c66 : 0 ≤ x10_1
                            · rw [if_pos c66] at H
                              have c66b0 : decide (0 ≤ x10_1) = true := decide_eq_true c66
                              clear c66
                              by_cases c67 : x10_1 < (l1.length : Int)
                              · rw [if_pos c67] at H
                                have c67b0 : decide (x10_1 < (l1.length : Int)) = true := decide_eq_true c67
                                clear c67
                                by_cases c68 : x7_1.length < 17592186044416
                                · rw [if_pos c68] at H
                                  have LMc68 := Aside0.mk c68
                                  clear c68
                                  obtain ⟨y285, hy285⟩ : ∃ y_ : List Int, y_ = (x7_1 ++ [rd l1 x10_1]) := ⟨_, rfl⟩
                                  replace H : (catafalquelaw11_BoxPlays.j4 kj39 l1 t248 y285 x8_1 x9_1 x10_1 t270 t271 t274 t277) = some r := by first | (rw [hy285]; with_reducible exact H) | (have H2_ := (Option.bind_some _ _).symm.trans H; rw [hy285]; with_reducible exact H2_) | (have H2_ := (Option.bind_some _ _).symm.trans H; with_reducible exact H2_) | with_reducible exact H | (rw [hy285]; exact H) | exact H
                                  have Ny285 := Aside0.mk hy285
                                  clear hy285
                                  have H' := Aside0.mk H
                                  clear H
                                  have p284 : 0 ≤ (x10_1 : Int) := of_decide_eq_true (by first | (with_reducible assumption) | assumption)
                                  have q284 : x10_1 < (l1.length : Int) := of_decide_eq_true (by first | (with_reducible assumption) | assumption)
                                  obtain ⟨ad284, e284, hx284_0⟩ := Kd.at_int HR1.out x10_1 p284 q284
                                  obtain rfl : ad250 = ad284 := (by injection e284)
                                  replace hx284_0 := (HB.out.cell (World.block_lt_of_cell? w _ hx284_0)).trans hx284_0
                                  replace p284 := eq_true p284
                                  replace q284 := eq_true q284
                                  go_wp2_with (first | ((with_reducible refine gate_builtin (b := .append) (xs := #[.tmp 105, .tmp 110]) rfl ?_); (try (refine gate_guard (by rfl) ?_; dsimp only)); at_builtin; refine Kd.R_append (Kd.int .i64) (w0 := w) w.heap.size rfl (.tmp 105) (.tmp 110) 23 2 (.int .i64 0) 8 rfl Try.underlying23 info2 rfl (by decide) (by omega) u7 x7_1 (rd l1 x10_1) [.int .i64 (rd l1 x10_1)] (fun k_ => some k_ ≠ (.slice Ao49 t271.length co49 : Value).ownBlock ∧ some k_ ≠ (.slice Ao49 t271.length co49 : Value).ownBlock) (fun _ => False) rfl rfl ?aP (fun _ hk => hk.elim) ?aF ?aO ?aB ?aS ?aL ?_; (case aP => exact rfl); (case aB => exact (by repeat (first | (with_reducible first | exact HB.out | apply below_alloc | apply pw_below_drewN | apply below_drew1 | refine below_set ?_ GE249.out | refine below_set ?_ GE282.out) | exact HB.out))); (case aF => exact (fun k_ hk => ⟨Kd.fresh' (Kd.R_lt (by (with_reducible repeat (first | apply Kd.R_alloc | apply Kd.R_drewN | apply Kd.R_drew)); exact HO_250001.out)) k_ hk, Kd.fresh' (Kd.R_lt (by (with_reducible repeat (first | apply Kd.R_alloc | apply Kd.R_drewN | apply Kd.R_drew)); exact HO_283001.out)) k_ hk⟩)); (case aO => exact (by (with_reducible repeat (first | apply Kd.R_alloc | apply Kd.R_drewN | apply Kd.R_drew)); exact HO_7.out)); (case aS => exact (below_size (by repeat (first | (with_reducible first | exact HB.out | apply below_alloc | apply pw_below_drewN | apply below_drew1 | refine below_set ?_ GE249.out | refine below_set ?_ GE282.out) | exact HB.out)))); (case aL => have := LMc68.out; omega); intro v286 w69 ho hb hg hat; rw [← Ny285.out] at ho; have n0_ := Aside0.mk (Kd.Q_over' (by (with_reducible repeat (first | apply Kd.Q_alloc | apply Kd.Q_drewN | apply Kd.Q_drew)); exact HO_8.out) (Kd.R_typed (by (with_reducible repeat (first | apply Kd.R_alloc | apply Kd.R_drewN | apply Kd.R_drew)); exact HO_7.out)) (by decide) hg); have n1_ := Aside0.mk (Kd.R_after (ok := (fun _ => True)) (by (with_reducible repeat (first | apply Kd.R_alloc | apply Kd.R_drewN | apply Kd.R_drew)); exact Kd.R_mono HO_250001.out (fun _ hk => ⟨trivial, hk⟩)) hg hat); have n2_ := Aside0.mk (Kd.R_over' (by (with_reducible repeat (first | apply Kd.R_alloc | apply Kd.R_drewN | apply Kd.R_drew)); exact HO_250002.out) (Kd.R_typed (by (with_reducible repeat (first | apply Kd.R_alloc | apply Kd.R_drewN | apply Kd.R_drew)); exact HO_7.out)) (by decide) hg); have n3_ := Aside0.mk (Kd.R_over' (by (with_reducible repeat (first | apply Kd.R_alloc | apply Kd.R_drewN | apply Kd.R_drew)); exact HO_250003.out) (Kd.R_typed (by (with_reducible repeat (first | apply Kd.R_alloc | apply Kd.R_drewN | apply Kd.R_drew)); exact HO_7.out)) (by decide) hg); have n4_ := Aside0.mk (Kd.R_after (ok := (fun _ => True)) (by (with_reducible repeat (first | apply Kd.R_alloc | apply Kd.R_drewN | apply Kd.R_drew)); exact Kd.R_mono HO_283001.out (fun _ hk => ⟨trivial, hk⟩)) hg hat); have n5_ := Aside0.mk (Kd.R_over' (by (with_reducible repeat (first | apply Kd.R_alloc | apply Kd.R_drewN | apply Kd.R_drew)); exact HO_283002.out) (Kd.R_typed (by (with_reducible repeat (first | apply Kd.R_alloc | apply Kd.R_drewN | apply Kd.R_drew)); exact HO_7.out)) (by decide) hg); have n6_ := Aside0.mk (Kd.R_over' (by (with_reducible repeat (first | apply Kd.R_alloc | apply Kd.R_drewN | apply Kd.R_drew)); exact HO_283003.out) (Kd.R_typed (by (with_reducible repeat (first | apply Kd.R_alloc | apply Kd.R_drewN | apply Kd.R_drew)); exact HO_7.out)) (by decide) hg); have n7_ := Aside0.mk (blk_grown (g := gb249) (o := .cells #[.int .i64 t270, .slice Ao49 t271.length co49, .slice Ao51 t274.length co51, .slice Ao53 t277.length co53] 27 (0, 0)) (by (with_reducible repeat (first | refine blk_drewN ?_ _ | refine blk_drew ?_ | refine blk_alloc ?_ _)); exact BK249.out) hg (Kd.R_ne HO_7.out BK249.out (by decide))); have n8_ := Aside0.mk (blk_grown (g := gb282) (o := .cells #[.int .i64 t270, .slice Ao49 t271.length co49, .slice Ao51 t274.length co51, .slice Ao53 t277.length co53] 27 (0, 0)) (by (with_reducible repeat (first | refine blk_drewN ?_ _ | refine blk_drew ?_ | refine blk_alloc ?_ _)); exact BK282.out) hg (Kd.R_ne HO_7.out BK282.out (by decide))); have n9_ := Aside0.mk (hb); have n10_ := Aside0.mk (ho); clear HO_8; clear HO_250001; clear HO_250002; clear HO_250003; clear HO_283001; clear HO_283002; clear HO_283003; clear BK249; clear BK282; clear HB; clear HO_7; have HO_8 := n0_; have HO_250001 := n1_; have HO_250002 := n2_; have HO_250003 := n3_; have HO_283001 := n4_; have HO_283002 := n5_; have HO_283003 := n6_; have BK249 := n7_; have BK282 := n8_; have HB := n9_; have HO287 := n10_; clear n0_ n1_ n2_ n3_ n4_ n5_ n6_ n7_ n8_ n9_ n10_; clear ho hb hg hat))
                                  go_meet
                                  case rel => exact ⟨_, (y285), (x8_1), (x9_1), (t270), (t271), (t274), (t277), (.slice Ao49 t271.length co49), (.slice Ao51 t274.length co51), (.slice Ao53 t277.length co53), (by first | rfl | (simp; done) | (simp [*]; done)), H', ⟨by have := HK1.out; have := HJ6.out; have := HJ39.out; first | omega | exact Nat.le_refl _⟩, ⟨by (with_reducible repeat (first | apply Kd.R_alloc | apply Kd.R_drewN | apply Kd.R_drew)); exact Kd.R_mono HO287.out (fun _ hk => hk.1)⟩, ⟨by (with_reducible repeat (first | apply Kd.Q_alloc | apply Kd.Q_drewN | apply Kd.Q_drew)); exact Kd.Q_mono HO_8.out (fun _ hk => hk.1)⟩, ⟨by (with_reducible repeat (first | apply Kd.R_alloc | apply Kd.R_drewN | apply Kd.R_drew)); exact Kd.R_mono HO_250001.out (fun _ hk => hk.2)⟩, ⟨by (with_reducible repeat (first | apply Kd.R_alloc | apply Kd.R_drewN | apply Kd.R_drew)); exact HO_250002.out⟩, ⟨by (with_reducible repeat (first | apply Kd.R_alloc | apply Kd.R_drewN | apply Kd.R_drew)); exact HO_250003.out⟩, ⟨by (with_reducible repeat (first | refine blk_drewN ?_ _ | refine blk_drew ?_ | refine blk_alloc ?_ _)); exact BK249.out⟩, ⟨by repeat (first | (with_reducible first | exact HB.out | apply below_alloc | apply pw_below_drewN | apply below_drew1 | refine below_set ?_ GE249.out | refine below_set ?_ GE282.out) | exact HB.out)⟩⟩
                                · rw [if_neg c68] at H
                                  exact absurd H (by simp)
                              · rw [if_neg c67] at H
                                exact absurd H (by simp)
                            · rw [if_neg c66] at H
                              exact absurd H (by simp)
                          · rw [if_neg c65] at H
                            have c65b0 : (t280 == 0) = false := beq_eq_false_iff_ne.mpr c65
                            have c65b1 : (t280 != 0) = true := bne_iff_ne.mpr c65
                            by_cases c70 : 1 ≤ (x8_1.length : Int)
                            · rw [if_pos c70] at H
                              have c70b0 := eq_true c70
                              have c70b1 : decide (1 ≤ (x8_1.length : Int)) = true := decide_eq_true c70
                              clear c70
                              obtain ⟨y288, hy288⟩ : ∃ y_ : List Int, y_ = (x8_1.drop (1 : Int).toNat) := ⟨_, rfl⟩
                              replace H : (catafalquelaw11_BoxPlays.j4 kj39 l1 t248 x7_1 y288 x9_1 x10_1 t270 t271 t274 t277) = some r := by first | (rw [hy288]; with_reducible exact H) | (have H2_ := (Option.bind_some _ _).symm.trans H; rw [hy288]; with_reducible exact H2_) | (have H2_ := (Option.bind_some _ _).symm.trans H; with_reducible exact H2_) | with_reducible exact H | (rw [hy288]; exact H) | exact H
                              have Ny288 := Aside0.mk hy288
                              clear hy288
                              have H' := Aside0.mk H
                              clear H
                              obtain ⟨Ao71, co71, eo71, _⟩ := Kd.Q_slice HO_8.out
                              subst eo71
                              have q72 : (1 : Int) ≤ ((x8_1.length : Int) : Int) := of_decide_eq_true (by first | (with_reducible assumption) | assumption)
                              obtain ⟨i072, hi072, _, hsz72, _⟩ := info_parts info3
                              have hcut72 := cut_from (P := Try.prog) 25 3 .i64 Try.underlying25 hi072 1 hsz72 Ao71 x8_1.length co71 1 (by omega) q72
                              have hr72 := Kd.Q_drop (k := (1 : Int).toNat) HO_8.out (by omega)
                              obtain ⟨A72, hA72⟩ : ∃ A1, A1 = (if co71 = (1 : Int).toNat then Ao71 else (Ao71 : Option Addr).map (·.add ((1 : Int).toNat * 1))) := ⟨_, rfl⟩
                              obtain ⟨c72, hc72⟩ : ∃ c1, c1 = co71 - (1 : Int).toNat := ⟨_, rfl⟩
                              have hy72 : y288.length = x8_1.length - (1 : Int).toNat := (by rw [Ny288.out, List.length_drop])
                              rw [← Ny288.out] at hr72
                              rw [← hy72, ← hA72, ← hc72] at hcut72
                              replace hr72 : Kd.Q (Kd.int .i64) 3 wc w.heap.size (fun k_ => some k_ ≠ (.slice Ao53 t277.length co53 : Value).ownBlock ∧ some k_ ≠ (.slice Ao53 t277.length co53 : Value).ownBlock) (.slice A72 y288.length c72) y288 := (by rw [hA72, hc72, hy72]; exact hr72)
                              have HE72 : Aside0 ((Value.slice A72 y288.length c72).ownBlock = (.slice Ao71 x8_1.length co71 : Value).ownBlock) := ⟨by rw [hA72]; split <;> (cases (Ao71 : Option Addr) <;> rfl)⟩
                              clear hy72 hi072 hsz72 HO_8 hA72 hc72
                              have HO290 := Aside0.mk hr72
                              clear hr72
                              replace q72 := eq_true q72
                              have n_ := Aside0.mk (Kd.R_mono (ok' := fun k_ => some k_ ≠ (.slice A72 y288.length c72 : Value).ownBlock) HO_250003.out (fun k_ hk => (by rw [HE72.out]; exact hk)))
                              clear HO_250003
                              have HO_250003 := n_
                              clear n_
                              have n_ := Aside0.mk (Kd.R_mono (ok' := fun k_ => some k_ ≠ (.slice A72 y288.length c72 : Value).ownBlock) HO_283003.out (fun k_ hk => (by rw [HE72.out]; exact hk)))
                              clear HO_283003
                              have HO_283003 := n_
                              clear n_
                              go_wp2
                              go_meet
                              case rel => exact ⟨_, (x7_1), (y288), (x9_1), (t270), (t271), (t274), (t277), (.slice Ao49 t271.length co49), (.slice Ao51 t274.length co51), (.slice Ao53 t277.length co53), (by first | rfl | (simp; done) | (simp [*]; done)), H', ⟨by have := HK1.out; have := HJ6.out; have := HJ39.out; first | omega | exact Nat.le_refl _⟩, ⟨by (with_reducible repeat (first | apply Kd.R_alloc | apply Kd.R_drewN | apply Kd.R_drew)); exact Kd.R_mono HO_7.out (fun _ hk => hk.1)⟩, ⟨by (with_reducible repeat (first | apply Kd.Q_alloc | apply Kd.Q_drewN | apply Kd.Q_drew)); exact Kd.Q_mono HO290.out (fun _ hk => hk.1)⟩, ⟨by (with_reducible repeat (first | apply Kd.R_alloc | apply Kd.R_drewN | apply Kd.R_drew)); exact HO_250001.out⟩, ⟨by (with_reducible repeat (first | apply Kd.R_alloc | apply Kd.R_drewN | apply Kd.R_drew)); exact HO_250002.out⟩, ⟨by (with_reducible repeat (first | apply Kd.R_alloc | apply Kd.R_drewN | apply Kd.R_drew)); exact HO_250003.out⟩, ⟨by (with_reducible repeat (first | refine blk_drewN ?_ _ | refine blk_drew ?_ | refine blk_alloc ?_ _)); exact BK249.out⟩, ⟨by repeat (first | (with_reducible first | exact HB.out | apply below_alloc | apply pw_below_drewN | apply below_drew1 | refine below_set ?_ GE249.out | refine below_set ?_ GE282.out) | exact HB.out)⟩⟩
                            · rw [if_neg c70] at H
                              exact absurd H (by simp)
                case rest =>
                  clear HC12
                  try clear c1
                  try clear p2
                  try clear q2
                  try clear hx2
                  try clear qi2
                  try clear c3
                  try clear c5
                  try clear c6
                  try clear p6
                  try clear c7
                  try clear q7
                  try clear c13
                  try clear c13b0
                  try clear c13b1
                  try clear c15
                  try clear p26
                  try clear q26
                  try clear hx26
                  try clear p28
                  try clear q28
                  try clear hx28
                  try clear qi28
                  try clear c35
                  try clear c36
                  try clear c37
                  try clear c55
                  try clear c58
                  try clear c58b0
                  try clear c58b1
                  try clear c58b2
                  try clear c60
                  try clear c60b0
                  try clear c60b1
                  try clear c62
                  try clear c62b0
                  try clear c62b1
                  try clear c64
                  try clear p64
                  try clear c65
                  try clear c65b0
                  try clear c65b1
                  try clear c66
                  try clear c66b0
                  try clear c67
                  try clear c67b0
                  try clear c68
                  try clear c70
                  try clear c70b0
                  try clear c70b1
                  try clear c72
                  try clear q72
                  try clear hcz56_0
                  try clear hcz56_1
                  try clear hcz56_2
                  try clear hcz56_3
                  try clear hcz57_0
                  try clear hcz57_1
                  try clear hcz57_2
                  try clear hcz57_3
                  try clear hfz56_0
                  try clear hfz56_1
                  try clear hfz56_2
                  try clear hfz56_3
                  try clear hfz57_0
                  try clear hfz57_1
                  try clear hfz57_2
                  try clear hfz57_3
                  try clear hx269_0
                  try clear hx283_0
                  try clear hx284_0
                  try clear p2
                  try clear p26
                  try clear p269
                  try clear p28
                  try clear p283
                  try clear p284
                  try clear p6
                  try clear q2
                  try clear q26
                  try clear q265
                  try clear q269
                  try clear q28
                  try clear q283
                  try clear q284
                  try clear q72
                  obtain ⟨kq, x7_11, x8_11, x9_11, x250000_11, x250001_11, x250002_11, x250003_11, u250001, u250002, u250003, rfl, HA, HJ11, HO_7, HO_8, HO_250001, HO_250002, HO_250003, BK249, HB⟩ := hcut
                  cases kq with
                  | zero => exact absurd HA.out (by simp [catafalquelaw11_BoxPlays.j4])
                  | succ kj11 =>
                    have H := HA.out
                    clear HA
                    simp only [catafalquelaw11_BoxPlays.j4] at H
                    replace H := Option.bind_eq_some_iff.mp H
                    obtain ⟨t291, A730, H⟩ := H
                    replace H : (if t291 = true then (if (wrap64 ((x250001_11.length : Int) + (x250002_11.length : Int))) = (wrap64 ((x7_11.length : Int) - x9_11)) then ((catafalqueref01_Ints.f kj11 x250003_11 x8_11).bind fun t292 => (if t292 = true then (catafalquelaw11_BoxPlays.l0 kj11 l1 t248 x7_11 x8_11 x9_11 (wrap64 (x10_1 + 1)) x250000_11 x250001_11 x250002_11 x250003_11) else (some false))) else (some false)) else (some false)) = some r := H
                    have A73 := Aside0.mk A730
                    clear A730
                    by_cases c74 : t291 = true
                    · subst c74
                      have H1 : (if (wrap64 ((x250001_11.length : Int) + (x250002_11.length : Int))) = (wrap64 ((x7_11.length : Int) - x9_11)) then ((catafalqueref01_Ints.f kj11 x250003_11 x8_11).bind fun t292 => (if t292 = true then (catafalquelaw11_BoxPlays.l0 kj11 l1 t248 x7_11 x8_11 x9_11 (wrap64 (x10_1 + 1)) x250000_11 x250001_11 x250002_11 x250003_11) else (some false))) else (some false)) = some r := by rw [if_pos rfl] at H; exact H
                      clear H
                      have H := H1
                      clear H1
                      by_cases c75 : (wrap64 ((x250001_11.length : Int) + (x250002_11.length : Int))) = (wrap64 ((x7_11.length : Int) - x9_11))
                      · rw [if_pos c75] at H
                        have c75b0 : ((wrap64 ((x250001_11.length : Int) + (x250002_11.length : Int))) == (wrap64 ((x7_11.length : Int) - x9_11))) = true := beq_iff_eq.mpr c75
                        have c75b1 : ((wrap64 ((x250001_11.length : Int) + (x250002_11.length : Int))) != (wrap64 ((x7_11.length : Int) - x9_11))) = false := bne_eq_false_iff_eq.mpr c75
                        clear c75
                        replace H := Option.bind_eq_some_iff.mp H
                        obtain ⟨t292, A760, H⟩ := H
                        replace H : (if t292 = true then (catafalquelaw11_BoxPlays.l0 kj11 l1 t248 x7_11 x8_11 x9_11 (wrap64 (x10_1 + 1)) x250000_11 x250001_11 x250002_11 x250003_11) else (some false)) = some r := H
                        have A76 := Aside0.mk A760
                        clear A760
                        by_cases c77 : t292 = true
                        · subst c77
                          have H1 : (catafalquelaw11_BoxPlays.l0 kj11 l1 t248 x7_11 x8_11 x9_11 (wrap64 (x10_1 + 1)) x250000_11 x250001_11 x250002_11 x250003_11) = some r := by rw [if_pos rfl] at H; exact H
                          clear H
                          have H := H1
                          clear H1
                          have H' := Aside0.mk H
                          clear H
                          have hcz78_0 : wc.cell? ⟨gb249, 0, none⟩ = some (.int .i64 x250000_11) := (blk_cell BK249.out 0).trans rfl
                          have hcz78_1 : wc.cell? ⟨gb249, 1, none⟩ = some (u250001) := (blk_cell BK249.out 1).trans rfl
                          have hcz78_2 : wc.cell? ⟨gb249, 2, none⟩ = some (u250002) := (blk_cell BK249.out 2).trans rfl
                          have hcz78_3 : wc.cell? ⟨gb249, 3, none⟩ = some (u250003) := (blk_cell BK249.out 3).trans rfl
                          have hfz78_0 := blk_frozen BK249.out 0
                          have hfz78_1 := blk_frozen BK249.out 1
                          have hfz78_2 := blk_frozen BK249.out 2
                          have hfz78_3 := blk_frozen BK249.out 3
                          obtain ⟨Ao79, co79, eo79⟩ := Kd.R_slice HO_250001.out
                          subst eo79
                          obtain ⟨Ao80, co80, eo80⟩ := Kd.R_slice HO_250002.out
                          subst eo80
                          obtain ⟨Ao81, co81, eo81⟩ := Kd.R_slice HO_250003.out
                          subst eo81
                          go_wp2_with (first | ((with_reducible refine gate_callee (f := 28) rfl ?_); refine goesL_ (some 115) rfl rfl Try.func28 (by kernel_rfl) rfl #[.agg #[.int .i64 x250000_11, .slice Ao79 x250001_11.length co79, .slice Ao80 x250002_11.length co80, .slice Ao81 x250003_11.length co81]] rfl (by (try simp only [List.map_toArray, List.map_cons, List.map_nil]); first | done | rfl | (simp only [List.length_drop, List.length_take]; rfl)) ?_; (with_reducible refine (box_May.calls kj11 x250000_11 _ _ x250001_11 _ _ x250002_11 _ _ x250003_11 true _ ?side1 ?side2 ?side3 ?side4 ?side5 ?side6 A73.out).mono ?_); (case side1 => repeat (first | exact (Kd.R_reads' HO_250001.out).2.2 | (with_reducible refine Kd.C_alloc ?_ _) | (with_reducible refine Kd.C_drewN ?_ _) | (with_reducible refine Kd.C_drew ?_))); (case side2 => exact (Kd.R_reads' HO_250001.out).2.1); (case side3 => repeat (first | exact (Kd.R_reads' HO_250002.out).2.2 | (with_reducible refine Kd.C_alloc ?_ _) | (with_reducible refine Kd.C_drewN ?_ _) | (with_reducible refine Kd.C_drew ?_))); (case side4 => exact (Kd.R_reads' HO_250002.out).2.1); (case side5 => repeat (first | exact (Kd.R_reads' HO_250003.out).2.2 | (with_reducible refine Kd.C_alloc ?_ _) | (with_reducible refine Kd.C_drewN ?_ _) | (with_reducible refine Kd.C_drew ?_))); (case side6 => exact (Kd.R_reads' HO_250003.out).2.1); rintro e w82 ⟨rfl, hb⟩; refine ⟨_, rfl, ?_⟩; have n0_ := Aside0.mk (Kd.R_below (by (with_reducible repeat (first | apply Kd.R_alloc | apply Kd.R_drewN | apply Kd.R_drew)); exact HO_7.out) hb); have n1_ := Aside0.mk (Kd.Q_below (by (with_reducible repeat (first | apply Kd.Q_alloc | apply Kd.Q_drewN | apply Kd.Q_drew)); exact HO_8.out) hb); have n2_ := Aside0.mk (Kd.R_below (by (with_reducible repeat (first | apply Kd.R_alloc | apply Kd.R_drewN | apply Kd.R_drew)); exact HO_250001.out) hb); have n3_ := Aside0.mk (Kd.R_below (by (with_reducible repeat (first | apply Kd.R_alloc | apply Kd.R_drewN | apply Kd.R_drew)); exact HO_250002.out) hb); have n4_ := Aside0.mk (Kd.R_below (by (with_reducible repeat (first | apply Kd.R_alloc | apply Kd.R_drewN | apply Kd.R_drew)); exact HO_250003.out) hb); have n5_ := Aside0.mk (blk_below (g := gb249) (o := .cells #[.int .i64 x250000_11, .slice Ao79 x250001_11.length co79, .slice Ao80 x250002_11.length co80, .slice Ao81 x250003_11.length co81] 27 (0, 0)) (by (with_reducible repeat (first | refine blk_drewN ?_ _ | refine blk_drew ?_ | refine blk_alloc ?_ _)); exact BK249.out) hb); have n6_ := Aside0.mk (below_step (by repeat (first | (with_reducible first | exact HB.out | apply below_alloc | apply pw_below_drewN | apply below_drew1 | refine below_set ?_ GE249.out) | exact HB.out)) hb); clear HO_7; clear HO_8; clear HO_250001; clear HO_250002; clear HO_250003; clear BK249; clear HB; have HO_7 := n0_; have HO_8 := n1_; have HO_250001 := n2_; have HO_250002 := n3_; have HO_250003 := n4_; have BK249 := n5_; have HB := n6_; clear n0_ n1_ n2_ n3_ n4_ n5_ n6_; (try clear hb); (try clear hb2); (try clear hk); (try clear hi); have hcz83_0 : w82.cell? ⟨gb249, 0, none⟩ = some (.int .i64 x250000_11) := (blk_cell BK249.out 0).trans rfl; have hcz83_1 : w82.cell? ⟨gb249, 1, none⟩ = some (.slice Ao79 x250001_11.length co79) := (blk_cell BK249.out 1).trans rfl; have hcz83_2 : w82.cell? ⟨gb249, 2, none⟩ = some (.slice Ao80 x250002_11.length co80) := (blk_cell BK249.out 2).trans rfl; have hcz83_3 : w82.cell? ⟨gb249, 3, none⟩ = some (.slice Ao81 x250003_11.length co81) := (blk_cell BK249.out 3).trans rfl; have hfz83_0 := blk_frozen BK249.out 0; have hfz83_1 := blk_frozen BK249.out 1; have hfz83_2 := blk_frozen BK249.out 2; have hfz83_3 := blk_frozen BK249.out 3; obtain ⟨Ao84, co84, eo84⟩ := Kd.R_slice HO_7.out; subst eo84; obtain ⟨Ao85, co85, eo85, _⟩ := Kd.Q_slice HO_8.out; subst eo85) | (go_at_call 33; (with_reducible refine (catafalqueref01_Ints.calls kj11 _ _ x250003_11 _ _ x8_11 true _ ?side1 ?side2 ?side3 ?side4 A76.out).mono ?_); (case side1 => repeat (first | exact (Kd.R_reads' HO_250003.out).2.2 | (with_reducible refine Kd.C_alloc ?_ _) | (with_reducible refine Kd.C_drewN ?_ _) | (with_reducible refine Kd.C_drew ?_))); (case side2 => exact (Kd.R_reads' HO_250003.out).2.1); (case side3 => repeat (first | exact (Kd.Q_reads' HO_8.out).2.2 | (with_reducible refine Kd.C_alloc ?_ _) | (with_reducible refine Kd.C_drewN ?_ _) | (with_reducible refine Kd.C_drew ?_))); (case side4 => exact (Kd.Q_reads' HO_8.out).2.1); rintro e w' ⟨rfl, ⟨nd, rfl⟩⟩))
                          go_roundg kj11
                          case measure => have := HK1.out; have := HJ6.out; have := HJ11.out; omega
                          case rel => exact ⟨(x7_11), (x8_11), (x9_11), (wrap64 (x10_1 + 1)), (x250000_11), (x250001_11), (x250002_11), (x250003_11), (.slice Ao79 x250001_11.length co79), (.slice Ao80 x250002_11.length co80), (.slice Ao81 x250003_11.length co81), (by first | rfl | (simp; done) | (simp [*]; done)), (by first | rfl | (simp; done) | (simp [*]; done)), H', ⟨by have := HK1.out; have := HJ6.out; have := HJ11.out; omega⟩, ⟨by (with_reducible repeat (first | apply Kd.R_alloc | apply Kd.R_drewN | apply Kd.R_drew)); exact HO_7.out⟩, ⟨by (with_reducible repeat (first | apply Kd.Q_alloc | apply Kd.Q_drewN | apply Kd.Q_drew)); exact HO_8.out⟩, ⟨by (with_reducible repeat (first | apply Kd.R_alloc | apply Kd.R_drewN | apply Kd.R_drew)); exact HO_250001.out⟩, ⟨by (with_reducible repeat (first | apply Kd.R_alloc | apply Kd.R_drewN | apply Kd.R_drew)); exact HO_250002.out⟩, ⟨by (with_reducible repeat (first | apply Kd.R_alloc | apply Kd.R_drewN | apply Kd.R_drew)); exact HO_250003.out⟩, ⟨by (with_reducible repeat (first | refine blk_drewN ?_ _ | refine blk_drew ?_ | refine blk_alloc ?_ _)); exact BK249.out⟩, ⟨by repeat (first | (with_reducible first | exact HB.out | apply below_alloc | apply pw_below_drewN | apply below_drew1 | refine below_set ?_ GE249.out) | exact HB.out)⟩⟩
                        · replace c77 := Bool.eq_false_iff.mpr c77
                          subst c77
                          have H1 : (some false) = some r := by rw [if_neg (show ¬ (false = true) by decide)] at H; exact H
                          clear H
                          have H := H1
                          clear H1
                          obtain rfl := Option.some.inj H
                          have hcz86_0 : wc.cell? ⟨gb249, 0, none⟩ = some (.int .i64 x250000_11) := (blk_cell BK249.out 0).trans rfl
                          have hcz86_1 : wc.cell? ⟨gb249, 1, none⟩ = some (u250001) := (blk_cell BK249.out 1).trans rfl
                          have hcz86_2 : wc.cell? ⟨gb249, 2, none⟩ = some (u250002) := (blk_cell BK249.out 2).trans rfl
                          have hcz86_3 : wc.cell? ⟨gb249, 3, none⟩ = some (u250003) := (blk_cell BK249.out 3).trans rfl
                          have hfz86_0 := blk_frozen BK249.out 0
                          have hfz86_1 := blk_frozen BK249.out 1
                          have hfz86_2 := blk_frozen BK249.out 2
                          have hfz86_3 := blk_frozen BK249.out 3
                          obtain ⟨Ao87, co87, eo87⟩ := Kd.R_slice HO_250001.out
                          subst eo87
                          obtain ⟨Ao88, co88, eo88⟩ := Kd.R_slice HO_250002.out
                          subst eo88
                          obtain ⟨Ao89, co89, eo89⟩ := Kd.R_slice HO_250003.out
                          subst eo89
                          go_wp2_with (first | ((with_reducible refine gate_callee (f := 28) rfl ?_); refine goesL_ (some 115) rfl rfl Try.func28 (by kernel_rfl) rfl #[.agg #[.int .i64 x250000_11, .slice Ao87 x250001_11.length co87, .slice Ao88 x250002_11.length co88, .slice Ao89 x250003_11.length co89]] rfl (by (try simp only [List.map_toArray, List.map_cons, List.map_nil]); first | done | rfl | (simp only [List.length_drop, List.length_take]; rfl)) ?_; (with_reducible refine (box_May.calls kj11 x250000_11 _ _ x250001_11 _ _ x250002_11 _ _ x250003_11 true _ ?side1 ?side2 ?side3 ?side4 ?side5 ?side6 A73.out).mono ?_); (case side1 => repeat (first | exact (Kd.R_reads' HO_250001.out).2.2 | (with_reducible refine Kd.C_alloc ?_ _) | (with_reducible refine Kd.C_drewN ?_ _) | (with_reducible refine Kd.C_drew ?_))); (case side2 => exact (Kd.R_reads' HO_250001.out).2.1); (case side3 => repeat (first | exact (Kd.R_reads' HO_250002.out).2.2 | (with_reducible refine Kd.C_alloc ?_ _) | (with_reducible refine Kd.C_drewN ?_ _) | (with_reducible refine Kd.C_drew ?_))); (case side4 => exact (Kd.R_reads' HO_250002.out).2.1); (case side5 => repeat (first | exact (Kd.R_reads' HO_250003.out).2.2 | (with_reducible refine Kd.C_alloc ?_ _) | (with_reducible refine Kd.C_drewN ?_ _) | (with_reducible refine Kd.C_drew ?_))); (case side6 => exact (Kd.R_reads' HO_250003.out).2.1); rintro e w90 ⟨rfl, hb⟩; refine ⟨_, rfl, ?_⟩; have n0_ := Aside0.mk (Kd.R_below (by (with_reducible repeat (first | apply Kd.R_alloc | apply Kd.R_drewN | apply Kd.R_drew)); exact HO_7.out) hb); have n1_ := Aside0.mk (Kd.Q_below (by (with_reducible repeat (first | apply Kd.Q_alloc | apply Kd.Q_drewN | apply Kd.Q_drew)); exact HO_8.out) hb); have n2_ := Aside0.mk (Kd.R_below (by (with_reducible repeat (first | apply Kd.R_alloc | apply Kd.R_drewN | apply Kd.R_drew)); exact HO_250001.out) hb); have n3_ := Aside0.mk (Kd.R_below (by (with_reducible repeat (first | apply Kd.R_alloc | apply Kd.R_drewN | apply Kd.R_drew)); exact HO_250002.out) hb); have n4_ := Aside0.mk (Kd.R_below (by (with_reducible repeat (first | apply Kd.R_alloc | apply Kd.R_drewN | apply Kd.R_drew)); exact HO_250003.out) hb); have n5_ := Aside0.mk (blk_below (g := gb249) (o := .cells #[.int .i64 x250000_11, .slice Ao87 x250001_11.length co87, .slice Ao88 x250002_11.length co88, .slice Ao89 x250003_11.length co89] 27 (0, 0)) (by (with_reducible repeat (first | refine blk_drewN ?_ _ | refine blk_drew ?_ | refine blk_alloc ?_ _)); exact BK249.out) hb); have n6_ := Aside0.mk (below_step (by repeat (first | (with_reducible first | exact HB.out | apply below_alloc | apply pw_below_drewN | apply below_drew1 | refine below_set ?_ GE249.out) | exact HB.out)) hb); clear HO_7; clear HO_8; clear HO_250001; clear HO_250002; clear HO_250003; clear BK249; clear HB; have HO_7 := n0_; have HO_8 := n1_; have HO_250001 := n2_; have HO_250002 := n3_; have HO_250003 := n4_; have BK249 := n5_; have HB := n6_; clear n0_ n1_ n2_ n3_ n4_ n5_ n6_; (try clear hb); (try clear hb2); (try clear hk); (try clear hi); have hcz91_0 : w90.cell? ⟨gb249, 0, none⟩ = some (.int .i64 x250000_11) := (blk_cell BK249.out 0).trans rfl; have hcz91_1 : w90.cell? ⟨gb249, 1, none⟩ = some (.slice Ao87 x250001_11.length co87) := (blk_cell BK249.out 1).trans rfl; have hcz91_2 : w90.cell? ⟨gb249, 2, none⟩ = some (.slice Ao88 x250002_11.length co88) := (blk_cell BK249.out 2).trans rfl; have hcz91_3 : w90.cell? ⟨gb249, 3, none⟩ = some (.slice Ao89 x250003_11.length co89) := (blk_cell BK249.out 3).trans rfl; have hfz91_0 := blk_frozen BK249.out 0; have hfz91_1 := blk_frozen BK249.out 1; have hfz91_2 := blk_frozen BK249.out 2; have hfz91_3 := blk_frozen BK249.out 3; obtain ⟨Ao92, co92, eo92⟩ := Kd.R_slice HO_7.out; subst eo92; obtain ⟨Ao93, co93, eo93, _⟩ := Kd.Q_slice HO_8.out; subst eo93) | (go_at_call 33; (with_reducible refine (catafalqueref01_Ints.calls kj11 _ _ x250003_11 _ _ x8_11 false _ ?side1 ?side2 ?side3 ?side4 A76.out).mono ?_); (case side1 => repeat (first | exact (Kd.R_reads' HO_250003.out).2.2 | (with_reducible refine Kd.C_alloc ?_ _) | (with_reducible refine Kd.C_drewN ?_ _) | (with_reducible refine Kd.C_drew ?_))); (case side2 => exact (Kd.R_reads' HO_250003.out).2.1); (case side3 => repeat (first | exact (Kd.Q_reads' HO_8.out).2.2 | (with_reducible refine Kd.C_alloc ?_ _) | (with_reducible refine Kd.C_drewN ?_ _) | (with_reducible refine Kd.C_drew ?_))); (case side4 => exact (Kd.Q_reads' HO_8.out).2.1); rintro e w' ⟨rfl, ⟨nd, rfl⟩⟩))
                          go_ret
                          exact ⟨by first | rfl | (simp [errW_none, errW_some] <;> rfl) | (simp [*, errW_none, errW_some] <;> rfl), by repeat (first | (with_reducible first | exact HB.out | apply below_alloc | apply pw_below_drewN | apply below_drew1 | refine below_set ?_ GE249.out) | exact HB.out)⟩
                      · rw [if_neg c75] at H
                        have c75b0 : ((wrap64 ((x250001_11.length : Int) + (x250002_11.length : Int))) == (wrap64 ((x7_11.length : Int) - x9_11))) = false := beq_eq_false_iff_ne.mpr c75
                        have c75b1 : ((wrap64 ((x250001_11.length : Int) + (x250002_11.length : Int))) != (wrap64 ((x7_11.length : Int) - x9_11))) = true := bne_iff_ne.mpr c75
                        obtain rfl := Option.some.inj H
                        have hcz94_0 : wc.cell? ⟨gb249, 0, none⟩ = some (.int .i64 x250000_11) := (blk_cell BK249.out 0).trans rfl
                        have hcz94_1 : wc.cell? ⟨gb249, 1, none⟩ = some (u250001) := (blk_cell BK249.out 1).trans rfl
                        have hcz94_2 : wc.cell? ⟨gb249, 2, none⟩ = some (u250002) := (blk_cell BK249.out 2).trans rfl
                        have hcz94_3 : wc.cell? ⟨gb249, 3, none⟩ = some (u250003) := (blk_cell BK249.out 3).trans rfl
                        have hfz94_0 := blk_frozen BK249.out 0
                        have hfz94_1 := blk_frozen BK249.out 1
                        have hfz94_2 := blk_frozen BK249.out 2
                        have hfz94_3 := blk_frozen BK249.out 3
                        obtain ⟨Ao95, co95, eo95⟩ := Kd.R_slice HO_250001.out
                        subst eo95
                        obtain ⟨Ao96, co96, eo96⟩ := Kd.R_slice HO_250002.out
                        subst eo96
                        obtain ⟨Ao97, co97, eo97⟩ := Kd.R_slice HO_250003.out
                        subst eo97
                        go_wp2_with (first | ((with_reducible refine gate_callee (f := 28) rfl ?_); refine goesL_ (some 115) rfl rfl Try.func28 (by kernel_rfl) rfl #[.agg #[.int .i64 x250000_11, .slice Ao95 x250001_11.length co95, .slice Ao96 x250002_11.length co96, .slice Ao97 x250003_11.length co97]] rfl (by (try simp only [List.map_toArray, List.map_cons, List.map_nil]); first | done | rfl | (simp only [List.length_drop, List.length_take]; rfl)) ?_; (with_reducible refine (box_May.calls kj11 x250000_11 _ _ x250001_11 _ _ x250002_11 _ _ x250003_11 true _ ?side1 ?side2 ?side3 ?side4 ?side5 ?side6 A73.out).mono ?_); (case side1 => repeat (first | exact (Kd.R_reads' HO_250001.out).2.2 | (with_reducible refine Kd.C_alloc ?_ _) | (with_reducible refine Kd.C_drewN ?_ _) | (with_reducible refine Kd.C_drew ?_))); (case side2 => exact (Kd.R_reads' HO_250001.out).2.1); (case side3 => repeat (first | exact (Kd.R_reads' HO_250002.out).2.2 | (with_reducible refine Kd.C_alloc ?_ _) | (with_reducible refine Kd.C_drewN ?_ _) | (with_reducible refine Kd.C_drew ?_))); (case side4 => exact (Kd.R_reads' HO_250002.out).2.1); (case side5 => repeat (first | exact (Kd.R_reads' HO_250003.out).2.2 | (with_reducible refine Kd.C_alloc ?_ _) | (with_reducible refine Kd.C_drewN ?_ _) | (with_reducible refine Kd.C_drew ?_))); (case side6 => exact (Kd.R_reads' HO_250003.out).2.1); rintro e w98 ⟨rfl, hb⟩; refine ⟨_, rfl, ?_⟩; have n0_ := Aside0.mk (Kd.R_below (by (with_reducible repeat (first | apply Kd.R_alloc | apply Kd.R_drewN | apply Kd.R_drew)); exact HO_7.out) hb); have n1_ := Aside0.mk (Kd.Q_below (by (with_reducible repeat (first | apply Kd.Q_alloc | apply Kd.Q_drewN | apply Kd.Q_drew)); exact HO_8.out) hb); have n2_ := Aside0.mk (Kd.R_below (by (with_reducible repeat (first | apply Kd.R_alloc | apply Kd.R_drewN | apply Kd.R_drew)); exact HO_250001.out) hb); have n3_ := Aside0.mk (Kd.R_below (by (with_reducible repeat (first | apply Kd.R_alloc | apply Kd.R_drewN | apply Kd.R_drew)); exact HO_250002.out) hb); have n4_ := Aside0.mk (Kd.R_below (by (with_reducible repeat (first | apply Kd.R_alloc | apply Kd.R_drewN | apply Kd.R_drew)); exact HO_250003.out) hb); have n5_ := Aside0.mk (blk_below (g := gb249) (o := .cells #[.int .i64 x250000_11, .slice Ao95 x250001_11.length co95, .slice Ao96 x250002_11.length co96, .slice Ao97 x250003_11.length co97] 27 (0, 0)) (by (with_reducible repeat (first | refine blk_drewN ?_ _ | refine blk_drew ?_ | refine blk_alloc ?_ _)); exact BK249.out) hb); have n6_ := Aside0.mk (below_step (by repeat (first | (with_reducible first | exact HB.out | apply below_alloc | apply pw_below_drewN | apply below_drew1 | refine below_set ?_ GE249.out) | exact HB.out)) hb); clear HO_7; clear HO_8; clear HO_250001; clear HO_250002; clear HO_250003; clear BK249; clear HB; have HO_7 := n0_; have HO_8 := n1_; have HO_250001 := n2_; have HO_250002 := n3_; have HO_250003 := n4_; have BK249 := n5_; have HB := n6_; clear n0_ n1_ n2_ n3_ n4_ n5_ n6_; (try clear hb); (try clear hb2); (try clear hk); (try clear hi); have hcz99_0 : w98.cell? ⟨gb249, 0, none⟩ = some (.int .i64 x250000_11) := (blk_cell BK249.out 0).trans rfl; have hcz99_1 : w98.cell? ⟨gb249, 1, none⟩ = some (.slice Ao95 x250001_11.length co95) := (blk_cell BK249.out 1).trans rfl; have hcz99_2 : w98.cell? ⟨gb249, 2, none⟩ = some (.slice Ao96 x250002_11.length co96) := (blk_cell BK249.out 2).trans rfl; have hcz99_3 : w98.cell? ⟨gb249, 3, none⟩ = some (.slice Ao97 x250003_11.length co97) := (blk_cell BK249.out 3).trans rfl; have hfz99_0 := blk_frozen BK249.out 0; have hfz99_1 := blk_frozen BK249.out 1; have hfz99_2 := blk_frozen BK249.out 2; have hfz99_3 := blk_frozen BK249.out 3; obtain ⟨Ao100, co100, eo100⟩ := Kd.R_slice HO_7.out; subst eo100))
                        go_ret
                        exact ⟨by first | rfl | (simp [errW_none, errW_some] <;> rfl) | (simp [*, errW_none, errW_some] <;> rfl), by repeat (first | (with_reducible first | exact HB.out | apply below_alloc | apply pw_below_drewN | apply below_drew1 | refine below_set ?_ GE249.out) | exact HB.out)⟩
                    · replace c74 := Bool.eq_false_iff.mpr c74
                      subst c74
                      have H1 : (some false) = some r := by rw [if_neg (show ¬ (false = true) by decide)] at H; exact H
                      clear H
                      have H := H1
                      clear H1
                      obtain rfl := Option.some.inj H
                      have hcz101_0 : wc.cell? ⟨gb249, 0, none⟩ = some (.int .i64 x250000_11) := (blk_cell BK249.out 0).trans rfl
                      have hcz101_1 : wc.cell? ⟨gb249, 1, none⟩ = some (u250001) := (blk_cell BK249.out 1).trans rfl
                      have hcz101_2 : wc.cell? ⟨gb249, 2, none⟩ = some (u250002) := (blk_cell BK249.out 2).trans rfl
                      have hcz101_3 : wc.cell? ⟨gb249, 3, none⟩ = some (u250003) := (blk_cell BK249.out 3).trans rfl
                      have hfz101_0 := blk_frozen BK249.out 0
                      have hfz101_1 := blk_frozen BK249.out 1
                      have hfz101_2 := blk_frozen BK249.out 2
                      have hfz101_3 := blk_frozen BK249.out 3
                      obtain ⟨Ao102, co102, eo102⟩ := Kd.R_slice HO_250001.out
                      subst eo102
                      obtain ⟨Ao103, co103, eo103⟩ := Kd.R_slice HO_250002.out
                      subst eo103
                      obtain ⟨Ao104, co104, eo104⟩ := Kd.R_slice HO_250003.out
                      subst eo104
                      go_wp2_with (first | ((with_reducible refine gate_callee (f := 28) rfl ?_); refine goesL_ (some 115) rfl rfl Try.func28 (by kernel_rfl) rfl #[.agg #[.int .i64 x250000_11, .slice Ao102 x250001_11.length co102, .slice Ao103 x250002_11.length co103, .slice Ao104 x250003_11.length co104]] rfl (by (try simp only [List.map_toArray, List.map_cons, List.map_nil]); first | done | rfl | (simp only [List.length_drop, List.length_take]; rfl)) ?_; (with_reducible refine (box_May.calls kj11 x250000_11 _ _ x250001_11 _ _ x250002_11 _ _ x250003_11 false _ ?side1 ?side2 ?side3 ?side4 ?side5 ?side6 A73.out).mono ?_); (case side1 => repeat (first | exact (Kd.R_reads' HO_250001.out).2.2 | (with_reducible refine Kd.C_alloc ?_ _) | (with_reducible refine Kd.C_drewN ?_ _) | (with_reducible refine Kd.C_drew ?_))); (case side2 => exact (Kd.R_reads' HO_250001.out).2.1); (case side3 => repeat (first | exact (Kd.R_reads' HO_250002.out).2.2 | (with_reducible refine Kd.C_alloc ?_ _) | (with_reducible refine Kd.C_drewN ?_ _) | (with_reducible refine Kd.C_drew ?_))); (case side4 => exact (Kd.R_reads' HO_250002.out).2.1); (case side5 => repeat (first | exact (Kd.R_reads' HO_250003.out).2.2 | (with_reducible refine Kd.C_alloc ?_ _) | (with_reducible refine Kd.C_drewN ?_ _) | (with_reducible refine Kd.C_drew ?_))); (case side6 => exact (Kd.R_reads' HO_250003.out).2.1); rintro e w105 ⟨rfl, hb⟩; refine ⟨_, rfl, ?_⟩; have n0_ := Aside0.mk (Kd.R_below (by (with_reducible repeat (first | apply Kd.R_alloc | apply Kd.R_drewN | apply Kd.R_drew)); exact HO_7.out) hb); have n1_ := Aside0.mk (Kd.Q_below (by (with_reducible repeat (first | apply Kd.Q_alloc | apply Kd.Q_drewN | apply Kd.Q_drew)); exact HO_8.out) hb); have n2_ := Aside0.mk (Kd.R_below (by (with_reducible repeat (first | apply Kd.R_alloc | apply Kd.R_drewN | apply Kd.R_drew)); exact HO_250001.out) hb); have n3_ := Aside0.mk (Kd.R_below (by (with_reducible repeat (first | apply Kd.R_alloc | apply Kd.R_drewN | apply Kd.R_drew)); exact HO_250002.out) hb); have n4_ := Aside0.mk (Kd.R_below (by (with_reducible repeat (first | apply Kd.R_alloc | apply Kd.R_drewN | apply Kd.R_drew)); exact HO_250003.out) hb); have n5_ := Aside0.mk (blk_below (g := gb249) (o := .cells #[.int .i64 x250000_11, .slice Ao102 x250001_11.length co102, .slice Ao103 x250002_11.length co103, .slice Ao104 x250003_11.length co104] 27 (0, 0)) (by (with_reducible repeat (first | refine blk_drewN ?_ _ | refine blk_drew ?_ | refine blk_alloc ?_ _)); exact BK249.out) hb); have n6_ := Aside0.mk (below_step (by repeat (first | (with_reducible first | exact HB.out | apply below_alloc | apply pw_below_drewN | apply below_drew1 | refine below_set ?_ GE249.out) | exact HB.out)) hb); clear HO_7; clear HO_8; clear HO_250001; clear HO_250002; clear HO_250003; clear BK249; clear HB; have HO_7 := n0_; have HO_8 := n1_; have HO_250001 := n2_; have HO_250002 := n3_; have HO_250003 := n4_; have BK249 := n5_; have HB := n6_; clear n0_ n1_ n2_ n3_ n4_ n5_ n6_; (try clear hb); (try clear hb2); (try clear hk); (try clear hi)))
                      go_ret
                      exact ⟨by first | rfl | (simp [errW_none, errW_some] <;> rfl) | (simp [*, errW_none, errW_some] <;> rfl), by repeat (first | (with_reducible first | exact HB.out | apply below_alloc | apply pw_below_drewN | apply below_drew1 | refine below_set ?_ GE249.out) | exact HB.out)⟩
              · rw [if_neg c11] at H
                exact absurd H (by simp)
            · rw [if_neg c10] at H
              exact absurd H (by simp)
          · replace c9 := Bool.eq_false_iff.mpr c9
            subst c9
            have H1 : (some t248) = some r := by rw [if_neg (show ¬ (false = true) by decide)] at H; exact H
            clear H
            have H := H1
            clear H1
            obtain rfl := Option.some.inj H
            go_wp2
            go_ret
            exact ⟨by first | rfl | (simp [errW_none, errW_some] <;> rfl) | (simp [*, errW_none, errW_some] <;> rfl), by repeat (first | (with_reducible first | exact HB.out | apply below_alloc | apply pw_below_drewN | apply below_drew1 | refine below_set ?_ GE249.out) | exact HB.out)⟩

/-- THE ONE PURE STATEMENT of catafalquelaw11_BoxPlays: yours. -/
def catafalquelaw11_BoxPlays.Pure : Prop := ∀ (a0 : Int) (l1 : List Int), (Lit.int .u8 a0).wf = true → l1.length ≤ maxLen → l1.length * 8 ≤ 140737488351232 → (∀ x ∈ l1, (Lit.int .i64 x).wf = true) → ∃ k, catafalquelaw11_BoxPlays.f k a0 l1 = some true
theorem catafalquelaw11_BoxPlays.walk (P : catafalquelaw11_BoxPlays.Pure) (a0 : Int) (a1 : Option Addr) (len1 cap1 : Nat) (z1 : List Int) (w : World) (w0 : (Lit.int .u8 a0).wf = true) (w1 : (a1 = none ∧ len1 = 0 ∧ cap1 = 0 ∧ z1 = []) ∨ ∃ x, a1 = some x ∧ len1 ≤ cap1 ∧ cap1 ≤ maxLen ∧ z1.length = cap1 ∧ (∀ i, i < z1.length → w.cell? (x.add i) = some (.int .i64 (z1.getD i 0))) ∧ ∀ n ∈ z1, (Lit.int .i64 n).wf = true) (y1 : len1 * 8 ≤ 140737488351232) :
    Calls Try.prog 13 #[.int .u8 a0, .slice a1 len1 cap1] w fun e w' => e = .returned (.bool true) ∧ Below w.heap.size w w' := by
  obtain ⟨l1, rfl, hr1, hm1, hw1, hc1⟩ := ReadsInt.ofRowC w1
  obtain ⟨k, h⟩ := P a0 l1 w0 hm1 y1 hw1
  refine (catafalquelaw11_BoxPlays.calls k a0 _ _ l1 true w (Kd.C_of_reads (d := (0 : Int)) (h1 := fun _ => rfl) hr1) hc1 h).mono ?_
  rintro e w' ⟨rfl, hd⟩
  exact ⟨rfl, hd⟩

end Go.Proofs.Ytibkpacjijbblaa.QPlays
