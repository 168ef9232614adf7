/- Walks over the program's functions, on values without memory, and what they come to. No condition. -/
import Derived.Test.YtmnpiofabgfcmaaTw19
set_option linter.unusedVariables false
set_option linter.unusedSimpArgs false
namespace Go.Proofs.YtmnpiofabgfcmaaT
open Go Go.RowKit
variable {P : Program} {st : St}
/-- At its end less may be known. -/
theorem TW_finS {c : Code} {Q : Exit → St → Prop} (h : TW P c (fun e s => ∃ s', Sub s s' ∧ Q e s') st) : TW P c Q st := by
  refine .mk fun cx a w hf => Go.wp_mono (h.run cx a w hf) ?_
  rintro e a' w' ⟨s, ⟨s', h1, h2⟩, h3⟩
  exact ⟨s', h2, h1 cx a' w' h3⟩
theorem TW_scope2 {c rest : Code} {Q : Exit → St → Prop} (l : Nat) (I : Nat → St → Prop) (n : Nat) (hf : findLabel c l = some (.seq .skip rest))
    (h0 : (∀ m s s', m < n → I m s' → Sub s s' → TW P rest (QJump l I n Q) s) → TW P c (QJump l I n Q) st)
    (h : ∀ m s, I m s → TW P rest (QJump l I m Q) s) : TW P (.scope c) Q st := by
  refine TW_scope l I n hf (h0 fun m s s' hm hI hs => TW_sub hs ((h m s' hI).mono fun e s2 hq => ?_)) fun m s hI => TW_seq (TW_skip (QThen_n (h m s hI)))
  cases e with
  | goto l' =>
    obtain ⟨e1, m2, s3, h1, h2, h3⟩ := hq
    exact ⟨e1, m2, s3, by omega, h2, h3⟩
  | _ => exact hq
theorem Ep2 : type_of% @QJump_r := @QJump_r
theorem Ep3 : type_of% @QJump_e := @QJump_e
theorem Ep4 : type_of% @QThen_g := @QThen_g
theorem Ep5 : type_of% @QMid_g := @QMid_g
theorem Ep6 : type_of% @QBlock_g := @QBlock_g
theorem Ep7 : type_of% @QJump_n := @QJump_n
theorem Ep8 : type_of% @TW_goto := @TW_goto
theorem Ep9 : type_of% @TW_label := @TW_label
end Go.Proofs.YtmnpiofabgfcmaaT
