/- Of any vertices whether they are a tree, which lie below any one, the processors, the nodes, and what lies above any one, are the document's. No condition: every input. -/
import Derived.Test.YtbcemjanpmbdeaaRows
import Derived.Test.YtbcemjanpmbdeaaPlainTopoTells
import Derived.Test.YtbcemjanpmbdeaaOpens
import Derived.WalkKit
import Derived.ProofKit
import Derived.OpenShut
import Derived.ShutString
import Derived.ChangeOld
import Derived.Below
import Derived.SizedLaws
namespace Go.Proofs.Ytbcemjanpmbdeaa.topoTells
open Go.ChangeShapes Go.WideShapes Go.ChangeAt Go.RowKit
open Go.ChangeMaps (open_string shut_string)
set_option linter.unusedVariables false
theorem own : ownKnob Try.prog.godebug = none := by kernel_rfl
theorem laidOut : laidOutB Try.prog = true := by kernel_rfl
open Go.Proofs.YtbcemjanpmbdeaaW.PrintWords Go.Proofs.YtbcemjanpmbdeaaO
theorem opens22 {H : Type} {enc : TypeId × Value → H} {W : World} : Opens enc Try.prog W 22 (Kd.slice 29 QTopo.k29) (fun l => l.length ≤ maxLen ∧ ∀ x ∈ l, (fun b : QTopo.S29 => (Lit.int .i64 b.f0).wf = true ∧ (Lit.int .i64 b.f1).wf = true) x) :=
  Opens.slice Try.underlying22 (by kernel_rfl) (Opens.struct (f := fun x : QTopo.S29 => (x.f0, x.f1)) (g := fun x : Int × Int => (⟨x.1, x.2⟩ : QTopo.S29)) (fun _ => rfl) Try.underlying29 (by kernel_rfl)
    (OpensF.cons rfl (Opens.int Try.underlying3 (by kernel_rfl)) (OpensF.one rfl (Opens.int Try.underlying3 (by kernel_rfl)))))
set_option maxRecDepth 100000 in
theorem lifted (os : Os) (started : os.Started) (H : Type) (enc : TypeId × Value → H) :
    ReturnsInHanded {} Try.checked os 6 .any (Rows.topoTellsSpec.pre6 enc Try.prog Try.f6 Rows.topoTellsRow.domain false) (Rows.topoTellsSpec.post enc Try.prog Try.f6 false true false false) := by
  refine returnsInHanded_of_change_sized (C := Try.checked) own started (by kernel_rfl) Try.func6
    (ChangeSpec.witness6 (enc := enc) (C := Try.checked) false ⟨#[], #[.slice none 0 0, .int .i64 0, .int .i64 0], []⟩ 8 (by kernel_rfl) (by kernel_rfl) (by kernel_rfl) (by kernel_rfl)) ?_
  intro W base args ds gs before hval0 hW hcnd hsz0 _
  have hsz : (DataW.weightsEach Try.prog (Try.f6.params.toList ++ Rows.topoTellsSpec.plain.varTypes Try.prog) (ds ++ gs)).all (· ≤ reachBytes) = true := hsz0
  have hval : ∀ (j : Nat) t v, Try.f6.params[j]? = some t → args[j]? = some v → Value.okWide Try.prog W .any base t v := hval0
  have hW' := hW
  obtain ⟨p, q, hA0, hV, rfl, hfz, hnd⟩ := hW
  have hA : DataW.TrodAll enc Try.prog W 0 (fun _ => true) true Try.f6.params.toList args.toList ds p := hA0
  rw [Try.params6] at hA hval hsz
  obtain ⟨v0, vs0, d0, ds0, p0, q0, hargs, rfl, rfl, h0, r0⟩ := trodAll_cons hA
  obtain ⟨v1, vs1, d1, ds1, p1, q1, rfl, rfl, rfl, h1, r1⟩ := trodAll_cons r0
  obtain ⟨v2, vs2, d2, ds2, p2, q2, rfl, rfl, rfl, h2, r2⟩ := trodAll_cons r1
  obtain ⟨rfl, rfl, rfl⟩ := trodAll_nil r2
  obtain rfl : args = #[v0, v1, v2] := by cases args; simp_all
  obtain ⟨rfl, rfl⟩ := trodVars_none hV
  have k0 := h0
  have lt0 : ∀ x ∈ p0, x.block < W.heap.size := by obtain ⟨m, hm⟩ := k0; exact DataW.trod_lt m _ _ _ hm
  obtain ⟨A0, n0, c0, rfl⟩ := okWide_slice Try.underlying22 (hval 0 22 v0 rfl rfl)
  obtain ⟨l0, hr0, hc0, hq0⟩ : ∃ l, Kd.C QTopo.k29 W A0 (List.length l) l ∧ List.length l ≤ c0 ∧ n0 = List.length l := by
    obtain ⟨fuel, hf⟩ := h0
    obtain ⟨l, ⟨A, c, e, hl, hC⟩, _⟩ := opens22.2 _ _ _ hf
    have e1 : [Value.slice A0 n0 c0] = [Value.slice A l.length c] := e
    injection e1 with e2 _
    injection e2 with e3 e4 e5
    subst e3 e4 e5
    exact ⟨l, hC, hl, rfl⟩
  subst hq0
  obtain ⟨a1, rfl, rfl, rfl, w1⟩ := open_int Try.underlying3 (hval 1 3 v1 rfl rfl) h1
  obtain ⟨a2, rfl, rfl, rfl, w2⟩ := open_int Try.underlying3 (hval 2 3 v2 rfl rfl) h2
  clear hA0 hval0 hsz0 hsz
  refine (QTopo.catafalquelaw01_TopoTells.calls (Plain.TopoTells_f l0 a1 a2).choose A0 c0 l0 a1 a2 true W hr0 hc0 (Plain.TopoTells_f l0 a1 a2).choose_spec).mono fun e W' ⟨he, bel⟩ => ?_
  subst he
  exact ⟨_, rfl, _, _, _, [], _, [], hW', trodAll_mk1 (shut_bool Try.underlying4 _), (trodAll_cons_mk (Below.trod laidOut (by kernel_rfl) (of_decide_eq_true (by kernel_rfl)) k0 bel lt0) (trodAll_cons_mk (shut_int Try.underlying3 w1) (trodAll_cons_mk (shut_int Try.underlying3 w2) trodAll_mk0))), rfl, bel.frame _, fun h => by cases h⟩
theorem over : Rows.topoTellsRow.holds Try.pinned (OpenSpec.ofChange Rows.topoTellsSpec) :=
  OpenClaim.holds_of_wide 6 Try.f6 rfl rfl rfl rfl rfl rfl rfl ⟨rfl, rfl, rfl, rfl, rfl⟩ rfl rfl rfl rfl rfl (by kernel_rfl) Try.func6 (by kernel_rfl)
    (of_decide_eq_true (by kernel_rfl)) (by unfold Func.isWrapper; first | (rw [if_pos (by decide +kernel)]; kernel_rfl) | (rw [if_neg (by decide +kernel)]; exact ⟨rfl, rfl⟩))
    (fun os started H enc _ => lifted os started H enc)
theorem proved : Rows.TopoTellsSaid := over
end Go.Proofs.Ytbcemjanpmbdeaa.topoTells
namespace Go.Proofs.Ytbcemjanpmbdeaa
/-- The row, under a short name, for the claim. -/
theorem topoTells_holds : Rows.TopoTellsSaid := topoTells.proved
#print axioms topoTells_holds
end Go.Proofs.Ytbcemjanpmbdeaa
