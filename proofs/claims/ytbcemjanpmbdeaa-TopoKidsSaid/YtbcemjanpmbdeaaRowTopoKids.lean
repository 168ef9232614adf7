/- Of a tree that may be each vertex but the first one lies below just one; processors have none below; as many lie below all together as there are, less one. No condition: every input. -/
import Derived.Test.YtbcemjanpmbdeaaRows
import Derived.Test.YtbcemjanpmbdeaaPlainTopoKids
import Derived.Test.YtbcemjanpmbdeaaOpens
import Derived.WalkKit
import Derived.ProofKit
import Derived.OpenShut
import Derived.ShutString
import Derived.ChangeOld
import Derived.Below
import Derived.SizedLaws
namespace Go.Proofs.Ytbcemjanpmbdeaa.topoKids
open Go.ChangeShapes Go.WideShapes Go.ChangeAt Go.RowKit
open Go.ChangeMaps (open_string shut_string)
set_option linter.unusedVariables false
theorem own : ownKnob Try.prog.godebug = none := by kernel_rfl
theorem laidOut : laidOutB Try.prog = true := by kernel_rfl
open Go.Proofs.YtbcemjanpmbdeaaW.PrintWords Go.Proofs.YtbcemjanpmbdeaaO
theorem opens22 {H : Type} {enc : TypeId × Value → H} {W : World} : Opens enc Try.prog W 22 (Kd.slice 29 QTopo.k29) (fun l => l.length ≤ maxLen ∧ ∀ x ∈ l, (fun b : QTopo.S29 => (Lit.int .i64 b.f0).wf = true ∧ (Lit.int .i64 b.f1).wf = true) x) :=
  Opens.slice Try.underlying22 (by kernel_rfl) (Opens.struct (f := fun x : QTopo.S29 => (x.f0, x.f1)) (g := fun x : Int × Int => (⟨x.1, x.2⟩ : QTopo.S29)) (fun _ => rfl) Try.underlying29 (by kernel_rfl)
    (OpensF.cons rfl (Opens.int Try.underlying3 (by kernel_rfl)) (OpensF.one rfl (Opens.int Try.underlying3 (by kernel_rfl)))))
set_option maxRecDepth 100000 in
theorem lifted (os : Os) (started : os.Started) (H : Type) (enc : TypeId × Value → H) :
    ReturnsInHanded {} Try.checked os 3 .any (Rows.topoKidsSpec.pre6 enc Try.prog Try.f3 Rows.topoKidsRow.domain false) (Rows.topoKidsSpec.post enc Try.prog Try.f3 false true false false) := by
  refine returnsInHanded_of_change_sized (C := Try.checked) own started (by kernel_rfl) Try.func3
    (ChangeSpec.witness6 (enc := enc) (C := Try.checked) false ⟨#[], #[.slice none 0 0], []⟩ 8 (by kernel_rfl) (by kernel_rfl) (by kernel_rfl) (by kernel_rfl)) ?_
  intro W base args ds gs before hval0 hW hcnd hsz0 _
  have hsz : (DataW.weightsEach Try.prog (Try.f3.params.toList ++ Rows.topoKidsSpec.plain.varTypes Try.prog) (ds ++ gs)).all (· ≤ reachBytes) = true := hsz0
  have hval : ∀ (j : Nat) t v, Try.f3.params[j]? = some t → args[j]? = some v → Value.okWide Try.prog W .any base t v := hval0
  have hW' := hW
  obtain ⟨p, q, hA0, hV, rfl, hfz, hnd⟩ := hW
  have hA : DataW.TrodAll enc Try.prog W 0 (fun _ => true) true Try.f3.params.toList args.toList ds p := hA0
  rw [Try.params3] at hA hval hsz
  obtain ⟨v0, vs0, d0, ds0, p0, q0, hargs, rfl, rfl, h0, r0⟩ := trodAll_cons hA
  obtain ⟨rfl, rfl, rfl⟩ := trodAll_nil r0
  obtain rfl : args = #[v0] := by cases args; simp_all
  obtain ⟨rfl, rfl⟩ := trodVars_none hV
  have k0 := h0
  have lt0 : ∀ x ∈ p0, x.block < W.heap.size := by obtain ⟨m, hm⟩ := k0; exact DataW.trod_lt m _ _ _ hm
  obtain ⟨A0, n0, c0, rfl⟩ := okWide_slice Try.underlying22 (hval 0 22 v0 rfl rfl)
  obtain ⟨l0, hr0, hc0, hq0⟩ : ∃ l, Kd.C QTopo.k29 W A0 (List.length l) l ∧ List.length l ≤ c0 ∧ n0 = List.length l := by
    obtain ⟨fuel, hf⟩ := h0
    obtain ⟨l, ⟨A, c, e, hl, hC⟩, _⟩ := opens22.2 _ _ _ hf
    have e1 : [Value.slice A0 n0 c0] = [Value.slice A l.length c] := e
    injection e1 with e2 _
    injection e2 with e3 e4 e5
    subst e3 e4 e5
    exact ⟨l, hC, hl, rfl⟩
  subst hq0
  clear hA0 hval0 hsz0 hsz
  refine (QTopo.catafalquelaw01_TopoKids.calls 8000 A0 c0 l0 true W hr0 hc0 (Plain.TopoKids_f l0)).mono fun e W' ⟨he, bel⟩ => ?_
  subst he
  exact ⟨_, rfl, _, _, _, [], _, [], hW', trodAll_mk1 (shut_bool Try.underlying4 _), (trodAll_cons_mk (Below.trod laidOut (by kernel_rfl) (of_decide_eq_true (by kernel_rfl)) k0 bel lt0) trodAll_mk0), rfl, bel.frame _, fun h => by cases h⟩
theorem over : Rows.topoKidsRow.holds Try.pinned (OpenSpec.ofChange Rows.topoKidsSpec) :=
  OpenClaim.holds_of_wide 3 Try.f3 rfl rfl rfl rfl rfl rfl rfl ⟨rfl, rfl, rfl, rfl, rfl⟩ rfl rfl rfl rfl rfl (by kernel_rfl) Try.func3 (by kernel_rfl)
    (of_decide_eq_true (by kernel_rfl)) (by unfold Func.isWrapper; first | (rw [if_pos (by decide +kernel)]; kernel_rfl) | (rw [if_neg (by decide +kernel)]; exact ⟨rfl, rfl⟩))
    (fun os started H enc _ => lifted os started H enc)
theorem proved : Rows.TopoKidsSaid := over
end Go.Proofs.Ytbcemjanpmbdeaa.topoKids
namespace Go.Proofs.Ytbcemjanpmbdeaa
/-- The row, under a short name, for the claim. -/
theorem topoKids_holds : Rows.TopoKidsSaid := topoKids.proved
#print axioms topoKids_holds
end Go.Proofs.Ytbcemjanpmbdeaa
