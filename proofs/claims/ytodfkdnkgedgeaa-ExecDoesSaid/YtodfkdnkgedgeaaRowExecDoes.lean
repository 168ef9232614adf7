/- Whatever any G does, with whatever Gs share that may be, of any programs, what becomes of it, of them, and of who is woken, is the document's, or it is refused; handed in all stays as it was. No condition: every input. -/
import Derived.Test.YtodfkdnkgedgeaaRows
import Derived.Test.YtodfkdnkgedgeaaLawExecDoes
import Derived.WalkKit
import Derived.ProofKit
import Derived.OpenShut
import Derived.ShutString
import Derived.ChangeOld
import Derived.Below
import Derived.SizedLaws
namespace Go.Proofs.Ytodfkdnkgedgeaa.execDoes
open Go.ChangeShapes Go.WideShapes Go.ChangeAt Go.RowKit
open Go.ChangeMaps (open_string shut_string)
set_option linter.unusedVariables false
theorem own : ownKnob Try.prog.godebug = none := by kernel_rfl
theorem laidOut : laidOutB Try.prog = true := by kernel_rfl
open Go.Proofs.YtodfkdnkgedgeaaT
set_option maxRecDepth 100000 in
theorem lifted (os : Os) (started : os.Started) (H : Type) (enc : TypeId × Value → H) :
    ReturnsInHanded {} Try.checked os 3 .any (Rows.execDoesSpec.pre6 enc Try.prog Try.f3 Rows.execDoesRow.domain false) (Rows.execDoesSpec.post enc Try.prog Try.f3 false true false false) := by
  refine returnsInHanded_of_change_sized (C := Try.checked) own started (by kernel_rfl) Try.func3
    (ChangeSpec.witness6 (enc := enc) (C := Try.checked) false ⟨#[], #[.agg #[.slice none 0 0, .slice none 0 0], .slice none 0 0, .agg #[.int .i64 0, .int .i64 0, .int .i64 0], .int .i64 0], []⟩ 8 (by kernel_rfl) (by kernel_rfl) (by kernel_rfl) (by kernel_rfl)) ?_
  intro W base args ds gs before hval0 hW hcnd hsz0 _
  have hsz : (DataW.weightsEach Try.prog (Try.f3.params.toList ++ Rows.execDoesSpec.plain.varTypes Try.prog) (ds ++ gs)).all (· ≤ reachBytes) = true := hsz0
  have hval : ∀ (j : Nat) t v, Try.f3.params[j]? = some t → args[j]? = some v → Value.okWide Try.prog W .any base t v := hval0
  have hW' := hW
  obtain ⟨p, q, hA0, hV, rfl, hfz, hnd⟩ := hW
  have hA : DataW.TrodAll enc Try.prog W 0 (fun _ => true) true Try.f3.params.toList args.toList ds p := hA0
  rw [Try.params3] at hA hval hsz
  obtain ⟨v0, vs0, d0, ds0, p0, q0, hargs, rfl, rfl, h0, r0⟩ := trodAll_cons hA
  obtain ⟨v1, vs1, d1, ds1, p1, q1, rfl, rfl, rfl, h1, r1⟩ := trodAll_cons r0
  obtain ⟨v2, vs2, d2, ds2, p2, q2, rfl, rfl, rfl, h2, r2⟩ := trodAll_cons r1
  obtain ⟨v3, vs3, d3, ds3, p3, q3, rfl, rfl, rfl, h3, r3⟩ := trodAll_cons r2
  obtain ⟨rfl, rfl, rfl⟩ := trodAll_nil r3
  obtain rfl : args = #[v0, v1, v2, v3] := by cases args; simp_all
  obtain ⟨rfl, rfl⟩ := trodVars_none hV
  have k0 := h0
  have lt0 : ∀ x ∈ p0, x.block < W.heap.size := by obtain ⟨m, hm⟩ := k0; exact DataW.trod_lt m _ _ _ hm
  obtain ⟨cs0, rfl, hz0⟩ := okWide_struct Try.underlying25 (hval 0 25 v0 rfl rfl)
  obtain ⟨y0, R0, Q0⟩ := Opn.agg (enc := enc) (W := W) (cs := cs0) (Opn.struct Try.underlying25 (by kernel_rfl) (OpnF.cons rfl (Opn.slice Try.underlying22 (by kernel_rfl) (by decide) (Opn.struct Try.underlying64 (by kernel_rfl) (OpnF.cons rfl (Opn.int Try.underlying3 (by kernel_rfl)) (OpnF.one rfl (Opn.slice Try.underlying55 (by kernel_rfl) (by decide) (Opn.int Try.underlying3 (by kernel_rfl))))))) (OpnF.one rfl (Opn.slice Try.underlying23 (by kernel_rfl) (by decide) (Opn.struct Try.underlying68 (by kernel_rfl) (OpnF.cons rfl (Opn.int Try.underlying3 (by kernel_rfl)) (OpnF.cons rfl (Opn.slice Try.underlying65 (by kernel_rfl) (by decide) (Opn.int Try.underlying2 (by kernel_rfl))) (OpnF.cons rfl (Opn.slice Try.underlying66 (by kernel_rfl) (by decide) (Opn.struct Try.underlying70 (by kernel_rfl) (OpnF.cons rfl (Opn.int Try.underlying3 (by kernel_rfl)) (OpnF.one rfl (Opn.int Try.underlying2 (by kernel_rfl)))))) (OpnF.one rfl (Opn.slice Try.underlying55 (by kernel_rfl) (by decide) (Opn.int Try.underlying3 (by kernel_rfl)))))))))))) (by exact h0)
  have k1 := h1
  have lt1 : ∀ x ∈ p1, x.block < W.heap.size := by obtain ⟨m, hm⟩ := k1; exact DataW.trod_lt m _ _ _ hm
  obtain ⟨A1, n1, c1, rfl⟩ := okWide_slice Try.underlying26 (hval 1 26 v1 rfl rfl)
  obtain ⟨y1, R1, Q1⟩ := Opn.cell (enc := enc) (W := W) (Opn.slice Try.underlying26 (by kernel_rfl) (by decide) (Opn.slice Try.underlying71 (by kernel_rfl) (by decide) (Opn.struct Try.underlying47 (by kernel_rfl) (OpnF.cons rfl (Opn.int Try.underlying3 (by kernel_rfl)) (OpnF.one rfl (Opn.int Try.underlying3 (by kernel_rfl))))))) (by exact h1)
  have k2 := h2
  have lt2 : ∀ x ∈ p2, x.block < W.heap.size := by obtain ⟨m, hm⟩ := k2; exact DataW.trod_lt m _ _ _ hm
  obtain ⟨cs2, rfl, hz2⟩ := okWide_struct Try.underlying28 (hval 2 28 v2 rfl rfl)
  obtain ⟨y2, R2, Q2⟩ := Opn.agg (enc := enc) (W := W) (cs := cs2) (Opn.struct Try.underlying28 (by kernel_rfl) (OpnF.cons rfl (Opn.int Try.underlying3 (by kernel_rfl)) (OpnF.cons rfl (Opn.int Try.underlying3 (by kernel_rfl)) (OpnF.one rfl (Opn.int Try.underlying2 (by kernel_rfl)))))) (by exact h2)
  obtain ⟨a3, rfl, rfl, rfl, w3⟩ := open_int Try.underlying3 (hval 3 3 v3 rfl rfl) h3
  clear hA0 hval0 hsz0 hsz
  refine (Ret.law (does_law_row y0 y1 y2 a3 (fun x hx => (by have := (Q0.2.2 x hx).2.1.1; unfold maxLen at this; omega)) (by have := Q1.1; unfold maxLen at this; omega) (fun x hx => (by have := (Q1.2 x hx).1; unfold maxLen at this; omega)) (bounds_i64 Q2.2.2)) rfl (args4 R0 R1 R2 (.int _ _))).mono fun e W' ⟨he, bel⟩ => ?_
  subst he
  exact ⟨_, rfl, _, _, _, [], _, [], hW', trodAll_mk1 (shut_bool Try.underlying4 _), (trodAll_cons_mk (Below.trod laidOut (by kernel_rfl) (of_decide_eq_true (by kernel_rfl)) k0 bel lt0) (trodAll_cons_mk (Below.trod laidOut (by kernel_rfl) (of_decide_eq_true (by kernel_rfl)) k1 bel lt1) (trodAll_cons_mk (Below.trod laidOut (by kernel_rfl) (of_decide_eq_true (by kernel_rfl)) k2 bel lt2) (trodAll_cons_mk (shut_int Try.underlying3 w3) trodAll_mk0)))), rfl, bel.frame _, fun h => by cases h⟩
theorem over : Rows.execDoesRow.holds Try.pinned (OpenSpec.ofChange Rows.execDoesSpec) :=
  OpenClaim.holds_of_wide 3 Try.f3 rfl rfl rfl rfl rfl rfl rfl ⟨rfl, rfl, rfl, rfl, rfl⟩ rfl rfl rfl rfl rfl (by kernel_rfl) Try.func3 (by kernel_rfl)
    (of_decide_eq_true (by kernel_rfl)) (by unfold Func.isWrapper; first | (rw [if_pos (by decide +kernel)]; kernel_rfl) | (rw [if_neg (by decide +kernel)]; exact ⟨rfl, rfl⟩))
    (fun os started H enc _ => lifted os started H enc)
theorem proved : Rows.ExecDoesSaid := over
end Go.Proofs.Ytodfkdnkgedgeaa.execDoes
namespace Go.Proofs.Ytodfkdnkgedgeaa
/-- The row, under a short name, for the claim. -/
theorem execDoes_holds : Rows.ExecDoesSaid := execDoes.proved
#print axioms execDoes_holds
end Go.Proofs.Ytodfkdnkgedgeaa
