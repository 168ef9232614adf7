/- Unplugged and plugged again, all stand where they stood, but those of the ring, who stand in a row; who is plugged can't be plugged, who isn't can't be unplugged. No condition: every input. -/
import Derived.Test.YtmnpiofabgfcmaaRows
import Derived.Test.YtmnpiofabgfcmaaJoinPlugBack
import Derived.Test.YtmnpiofabgfcmaaLawPlugBack
import Derived.WalkKit
import Derived.ProofKit
import Derived.OpenShut
import Derived.ShutString
import Derived.ChangeOld
import Derived.Below
import Derived.SizedLaws
namespace Go.Proofs.Ytmnpiofabgfcmaa.plugBack
open Go.ChangeShapes Go.WideShapes Go.ChangeAt Go.RowKit
open Go.ChangeMaps (open_string shut_string)
set_option linter.unusedVariables false
theorem own : ownKnob Try.prog.godebug = none := by kernel_rfl
theorem laidOut : laidOutB Try.prog = true := by kernel_rfl
open Go.Proofs.YtmnpiofabgfcmaaT
set_option maxRecDepth 100000 in
theorem lifted (os : Os) (started : os.Started) (H : Type) (enc : TypeId × Value → H) :
    ReturnsInHanded {} Try.checked os 8 .any (Rows.plugBackSpec.pre6 enc Try.prog Try.f8 Rows.plugBackRow.domain false) (Rows.plugBackSpec.post enc Try.prog Try.f8 false true false false) := by
  refine returnsInHanded_of_change_sized (C := Try.checked) own started (by kernel_rfl) Try.func8
    (ChangeSpec.witness6 (enc := enc) (C := Try.checked) false ⟨#[], #[.agg #[.slice none 0 0, .int .i64 0, .slice none 0 0, .slice none 0 0, .int .u64 0], .int .i64 0], []⟩ 8 (by kernel_rfl) (by kernel_rfl) (by kernel_rfl) (by kernel_rfl)) ?_
  intro W base args ds gs before hval0 hW hcnd hsz0 _
  have hsz : (DataW.weightsEach Try.prog (Try.f8.params.toList ++ Rows.plugBackSpec.plain.varTypes Try.prog) (ds ++ gs)).all (· ≤ reachBytes) = true := hsz0
  have hval : ∀ (j : Nat) t v, Try.f8.params[j]? = some t → args[j]? = some v → Value.okWide Try.prog W .any base t v := hval0
  have hW' := hW
  obtain ⟨p, q, hA0, hV, rfl, hfz, hnd⟩ := hW
  have hA : DataW.TrodAll enc Try.prog W 0 (fun _ => true) true Try.f8.params.toList args.toList ds p := hA0
  rw [Try.params8] at hA hval hsz
  obtain ⟨v0, vs0, d0, ds0, p0, q0, hargs, rfl, rfl, h0, r0⟩ := trodAll_cons hA
  obtain ⟨v1, vs1, d1, ds1, p1, q1, rfl, rfl, rfl, h1, r1⟩ := trodAll_cons r0
  obtain ⟨rfl, rfl, rfl⟩ := trodAll_nil r1
  obtain rfl : args = #[v0, v1] := by cases args; simp_all
  obtain ⟨rfl, rfl⟩ := trodVars_none hV
  have k0 := h0
  have lt0 : ∀ x ∈ p0, x.block < W.heap.size := by obtain ⟨m, hm⟩ := k0; exact DataW.trod_lt m _ _ _ hm
  obtain ⟨cs0, rfl, hz0⟩ := okWide_struct Try.underlying35 (hval 0 35 v0 rfl rfl)
  obtain ⟨y0, R0, Q0⟩ := Opn.agg (enc := enc) (W := W) (cs := cs0) (Opn.struct Try.underlying35 (by kernel_rfl) (OpnF.cons rfl (Opn.slice Try.underlying22 (by kernel_rfl) (by decide) (Opn.struct Try.underlying73 (by kernel_rfl) (OpnF.cons rfl (Opn.int Try.underlying3 (by kernel_rfl)) (OpnF.one rfl (Opn.int Try.underlying3 (by kernel_rfl)))))) (OpnF.cons rfl (Opn.int Try.underlying3 (by kernel_rfl)) (OpnF.cons rfl (Opn.slice Try.underlying33 (by kernel_rfl) (by decide) (Opn.struct Try.underlying80 (by kernel_rfl) (OpnF.cons rfl (Opn.int Try.underlying3 (by kernel_rfl)) (OpnF.one rfl (Opn.slice Try.underlying41 (by kernel_rfl) (by decide) (Opn.int Try.underlying3 (by kernel_rfl))))))) (OpnF.cons rfl (Opn.slice Try.underlying25 (by kernel_rfl) (by decide) (Opn.slice Try.underlying41 (by kernel_rfl) (by decide) (Opn.int Try.underlying3 (by kernel_rfl)))) (OpnF.one rfl (Opn.int Try.underlying27 (by kernel_rfl)))))))) (by exact h0)
  obtain ⟨a1, rfl, rfl, rfl, w1⟩ := open_int Try.underlying3 (hval 1 3 v1 rfl rfl) h1
  clear hA0 hval0 hsz0 hsz
  refine (Ret.law (PlugBack_law y0.1 y0.2.1 y0.2.2.1 y0.2.2.2.1 y0.2.2.2.2 a1 (by have := Q0.1.1; unfold maxLen at this; omega) (by have := Q0.2.2.1.1; unfold maxLen at this; omega) (by have := Q0.2.2.2.1.1; unfold maxLen at this; omega) (bounds_u64 Q0.2.2.2.2)) rfl (args2 R0 (.int _ _))).mono fun e W' ⟨he, bel⟩ => ?_
  subst he
  exact ⟨_, rfl, _, _, _, [], _, [], hW', trodAll_mk1 (shut_bool Try.underlying4 _), (trodAll_cons_mk (Below.trod laidOut (by kernel_rfl) (of_decide_eq_true (by kernel_rfl)) k0 bel lt0) (trodAll_cons_mk (shut_int Try.underlying3 w1) trodAll_mk0)), rfl, bel.frame _, fun h => by cases h⟩
theorem over : Rows.plugBackRow.holds Try.pinned (OpenSpec.ofChange Rows.plugBackSpec) :=
  OpenClaim.holds_of_wide 8 Try.f8 rfl rfl rfl rfl rfl rfl rfl ⟨rfl, rfl, rfl, rfl, rfl⟩ rfl rfl rfl rfl rfl (by kernel_rfl) Try.func8 joined
    (of_decide_eq_true (by kernel_rfl)) (by unfold Func.isWrapper; first | (rw [if_pos (by decide +kernel)]; kernel_rfl) | (rw [if_neg (by decide +kernel)]; exact ⟨rfl, rfl⟩))
    (fun os started H enc _ => lifted os started H enc)
theorem proved : Rows.PlugBackSaid := over
end Go.Proofs.Ytmnpiofabgfcmaa.plugBack
namespace Go.Proofs.Ytmnpiofabgfcmaa
/-- The row, under a short name, for the claim. -/
theorem plugBack_holds : Rows.PlugBackSaid := plugBack.proved
#print axioms plugBack_holds
end Go.Proofs.Ytmnpiofabgfcmaa
