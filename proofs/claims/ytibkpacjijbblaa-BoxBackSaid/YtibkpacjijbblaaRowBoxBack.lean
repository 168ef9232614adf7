/- What is sent where nobody waits, and there is room, is received behind all that was there; the mailbox is as it was then, less what was received. No condition: every input. -/
import Derived.Test.YtibkpacjijbblaaRows
import Derived.Test.YtibkpacjijbblaaPureBoxBack
import Derived.Test.YtibkpacjijbblaaOpens
import Derived.WalkKit
import Derived.ProofKit
import Derived.OpenShut
import Derived.ShutString
import Derived.ChangeOld
import Derived.Below
import Derived.SizedLaws
namespace Go.Proofs.Ytibkpacjijbblaa.boxBack
open Go.ChangeShapes Go.WideShapes Go.ChangeAt Go.RowKit
open Go.ChangeMaps (open_string shut_string)
set_option linter.unusedVariables false
theorem own : ownKnob Try.prog.godebug = none := by kernel_rfl
theorem laidOut : laidOutB Try.prog = true := by kernel_rfl
open Go.Proofs.YtibkpacjijbblaaW.PrintWords Go.Proofs.YtibkpacjijbblaaO
set_option maxRecDepth 100000 in
theorem lifted (os : Os) (started : os.Started) (H : Type) (enc : TypeId × Value → H) :
    ReturnsInHanded {} Try.checked os 4 .any (Rows.boxBackSpec.pre6 enc Try.prog Try.f4 Rows.boxBackRow.domain false) (Rows.boxBackSpec.post enc Try.prog Try.f4 false true false false) := by
  refine returnsInHanded_of_change_sized (C := Try.checked) own started (by kernel_rfl) Try.func4
    (ChangeSpec.witness6 (enc := enc) (C := Try.checked) false ⟨#[], #[.agg #[.int .i64 0, .slice none 0 0, .slice none 0 0, .slice none 0 0], .int .i64 0], []⟩ 8 (by kernel_rfl) (by kernel_rfl) (by kernel_rfl) (by kernel_rfl)) ?_
  intro W base args ds gs before hval0 hW hcnd hsz0 _
  have hsz : (DataW.weightsEach Try.prog (Try.f4.params.toList ++ Rows.boxBackSpec.plain.varTypes Try.prog) (ds ++ gs)).all (· ≤ reachBytes) = true := hsz0
  have hval : ∀ (j : Nat) t v, Try.f4.params[j]? = some t → args[j]? = some v → Value.okWide Try.prog W .any base t v := hval0
  have hW' := hW
  obtain ⟨p, q, hA0, hV, rfl, hfz, hnd⟩ := hW
  have hA : DataW.TrodAll enc Try.prog W 0 (fun _ => true) true Try.f4.params.toList args.toList ds p := hA0
  rw [Try.params4] at hA hval hsz
  obtain ⟨v0, vs0, d0, ds0, p0, q0, hargs, rfl, rfl, h0, r0⟩ := trodAll_cons hA
  obtain ⟨v1, vs1, d1, ds1, p1, q1, rfl, rfl, rfl, h1, r1⟩ := trodAll_cons r0
  obtain ⟨rfl, rfl, rfl⟩ := trodAll_nil r1
  obtain rfl : args = #[v0, v1] := by cases args; simp_all
  obtain ⟨rfl, rfl⟩ := trodVars_none hV
  have k0 := h0
  have lt0 : ∀ x ∈ p0, x.block < W.heap.size := by obtain ⟨m, hm⟩ := k0; exact DataW.trod_lt m _ _ _ hm
  obtain ⟨cs0, rfl, hz0⟩ := okWide_struct Try.underlying35 (hval 0 35 v0 rfl rfl)
  obtain ⟨a0_0, A0_1, c0_1, l0_1, A0_2, c0_2, l0_2, A0_3, c0_3, l0_3, hcs0, w0_0, hr0_1, hc0_1, hm0_1, hr0_2, hc0_2, hm0_2, hr0_3, hc0_3, hm0_3⟩ : ∃ (a0_0 : Int) (A0_1 : Option Addr) (c0_1 : Nat) (l0_1 : (List Int)) (A0_2 : Option Addr) (c0_2 : Nat) (l0_2 : (List QBox.S71)) (A0_3 : Option Addr) (c0_3 : Nat) (l0_3 : (List Int)), cs0 = #[.int .i64 a0_0, .slice A0_1 (List.length l0_1) c0_1, .slice A0_2 (List.length l0_2) c0_2, .slice A0_3 (List.length l0_3) c0_3] ∧ (Lit.int .i64 a0_0).wf = true ∧ Kd.C (Kd.int .i64) W A0_1 (List.length l0_1) l0_1 ∧ List.length l0_1 ≤ c0_1 ∧ List.length l0_1 ≤ maxLen ∧ Kd.C QBox.k71 W A0_2 (List.length l0_2) l0_2 ∧ List.length l0_2 ≤ c0_2 ∧ List.length l0_2 ≤ maxLen ∧ Kd.C (Kd.int .i64) W A0_3 (List.length l0_3) l0_3 ∧ List.length l0_3 ≤ c0_3 ∧ List.length l0_3 ≤ maxLen := by
    obtain ⟨fuel, hf⟩ := h0
    obtain ⟨y, hK, hQ⟩ := Opens.fit (enc := enc) (W := W) (Opens.struct (f := id) (g := id) (fun _ => rfl) Try.underlying35 (by kernel_rfl) (OpensF.cons rfl (Opens.int Try.underlying3 (by kernel_rfl)) (OpensF.cons rfl (Opens.slice Try.underlying23 (by kernel_rfl) (Opens.int Try.underlying2 (by kernel_rfl))) (OpensF.cons rfl (Opens.slice Try.underlying33 (by kernel_rfl) (Opens.struct (f := (fun x : QBox.S71 => (x.f0, x.f1))) (g := (fun x : Int × Int => (⟨x.1, x.2⟩ : QBox.S71))) (fun _ => rfl) Try.underlying71 (by kernel_rfl) (OpensF.cons rfl (Opens.int Try.underlying3 (by kernel_rfl)) (OpensF.one rfl (Opens.int Try.underlying2 (by kernel_rfl)))))) (OpensF.one rfl (Opens.slice Try.underlying25 (by kernel_rfl) (Opens.int Try.underlying3 (by kernel_rfl)))))))) _ _ _ hf
    have hK1 : (Kd.pair (Kd.int .i64) (Kd.pair (Kd.slice 2 (Kd.int .i64)) (Kd.pair (Kd.slice 71 QBox.k71) (Kd.slice 3 (Kd.int .i64))))).K W y cs0.toList := hK
    have hQ1 : ((fun y => (Lit.int .i64 y).wf = true) y.1 ∧ ((fun y => (List.length y ≤ maxLen ∧ ∀ x ∈ y, (fun y => (Lit.int .i64 y).wf = true) x)) y.2.1 ∧ ((fun y => (List.length y ≤ maxLen ∧ ∀ x ∈ y, (fun y => (fun b => ((fun y => (Lit.int .i64 y).wf = true) b.1 ∧ (fun y => (Lit.int .i64 y).wf = true) b.2)) ((fun x : QBox.S71 => (x.f0, x.f1)) y)) x)) y.2.2.1 ∧ (fun y => (List.length y ≤ maxLen ∧ ∀ x ∈ y, (fun y => (Lit.int .i64 y).wf = true) x)) y.2.2.2))) := hQ
    obtain ⟨cs⟩ := cs0
    obtain ⟨_, _, rfl, rfl, ⟨_, _, rfl, ⟨A1, d1, rfl, g1, k1⟩, ⟨_, _, rfl, ⟨A2, d2, rfl, g2, k2⟩, ⟨A3, d3, rfl, g3, k3⟩⟩⟩⟩ := hK1
    obtain ⟨q0, ⟨⟨q1, _⟩, ⟨⟨q2, _⟩, ⟨q3, _⟩⟩⟩⟩ := hQ1
    exact ⟨y.1, A1, d1, y.2.1, A2, d2, y.2.2.1, A3, d3, y.2.2.2, rfl, q0, k1, g1, q1, k2, g2, q2, k3, g3, q3⟩
  subst hcs0
  obtain ⟨a1, rfl, rfl, rfl, w1⟩ := open_int Try.underlying2 (hval 1 2 v1 rfl rfl) h1
  clear hA0 hval0 hsz0 hsz
  refine (QBox.catafalquelaw11_BoxBack.calls 9000 a0_0 A0_1 c0_1 l0_1 A0_2 c0_2 l0_2 A0_3 c0_3 l0_3 a1 true W hr0_1 hc0_1 hr0_2 hc0_2 hr0_3 hc0_3 (Pure.BoxBack_f a0_0 l0_1 l0_2 l0_3 a1)).mono fun e W' ⟨he, bel⟩ => ?_
  subst he
  exact ⟨_, rfl, _, _, _, [], _, [], hW', trodAll_mk1 (shut_bool Try.underlying4 _), (trodAll_cons_mk (Below.trod laidOut (by kernel_rfl) (of_decide_eq_true (by kernel_rfl)) k0 bel lt0) (trodAll_cons_mk (shut_int Try.underlying2 w1) trodAll_mk0)), rfl, bel.frame _, fun h => by cases h⟩
theorem over : Rows.boxBackRow.holds Try.pinned (OpenSpec.ofChange Rows.boxBackSpec) :=
  OpenClaim.holds_of_wide 4 Try.f4 rfl rfl rfl rfl rfl rfl rfl ⟨rfl, rfl, rfl, rfl, rfl⟩ rfl rfl rfl rfl rfl (by kernel_rfl) Try.func4 (by kernel_rfl)
    (of_decide_eq_true (by kernel_rfl)) (by unfold Func.isWrapper; first | (rw [if_pos (by decide +kernel)]; kernel_rfl) | (rw [if_neg (by decide +kernel)]; exact ⟨rfl, rfl⟩))
    (fun os started H enc _ => lifted os started H enc)
theorem proved : Rows.BoxBackSaid := over
end Go.Proofs.Ytibkpacjijbblaa.boxBack
namespace Go.Proofs.Ytibkpacjijbblaa
/-- The row, under a short name, for the claim. -/
theorem boxBack_holds : Rows.BoxBackSaid := boxBack.proved
#print axioms boxBack_holds
end Go.Proofs.Ytibkpacjijbblaa
