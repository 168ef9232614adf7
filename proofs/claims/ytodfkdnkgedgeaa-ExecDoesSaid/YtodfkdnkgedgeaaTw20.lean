/- Walks over the program's functions, on values without memory, and what they come to. No condition. -/
import Derived.Test.YtodfkdnkgedgeaaTw19
set_option linter.unusedVariables false
set_option linter.unusedSimpArgs false
namespace Go.Proofs.YtodfkdnkgedgeaaT
open Go Go.RowKit
variable {P : Program} {st : St}
theorem TW_finS {c : Code} {Q : Exit → St → Prop} (h : TW P c (fun e s => ∃ s', Sub s s' ∧ Q e s') st) : TW P c Q st := by
 refine .mk fun cx a w hf => Go.wp_mono (h.run cx a w hf) ?_
 rintro e a' w' ⟨s, ⟨s', h1, h2⟩, h3⟩
 exact ⟨s', h2, h1 cx a' w' h3⟩
theorem Ep2 : type_of% @QJump_r := @QJump_r
theorem Ep3 : type_of% @QJump_e := @QJump_e
theorem Ep4 : type_of% @QThen_g := @QThen_g
theorem Ep5 : type_of% @QMid_g := @QMid_g
theorem Ep6 : type_of% @QBlock_g := @QBlock_g
theorem Ep8 : type_of% @TW_goto := @TW_goto
theorem Ep9 : type_of% @TW_label := @TW_label
end Go.Proofs.YtodfkdnkgedgeaaT
