/- Walks over the program's functions, on values without memory, and what they come to. No condition. -/
import Derived.Test.YtmnpiofabgfcmaaTw19
set_option linter.unusedVariables false
set_option linter.unusedSimpArgs false
namespace Go.Proofs.YtmnpiofabgfcmaaT
open Go Go.RowKit
variable {P : Program} {st : St}
theorem TW_finS {c : Code} {Q : Exit → St → Prop} (h : TW P c (fun e s => ∃ s', Sub s s' ∧ Q e s') st) : TW P c Q st := by
 refine .mk fun cx a w hf => Go.wp_mono (h.run cx a w hf) ?_
 rintro e a' w' ⟨s, ⟨s', h1, h2⟩, h3⟩
 exact ⟨s', h2, h1 cx a' w' h3⟩
end Go.Proofs.YtmnpiofabgfcmaaT
