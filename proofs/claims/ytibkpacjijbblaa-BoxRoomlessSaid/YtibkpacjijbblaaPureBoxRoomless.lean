/- The plain law BoxRoomless. -/
import Derived.Test.YtibkpacjijbblaaQBoxx7
import Derived.Test.YtibkpacjijbblaaPlainBox
namespace Go.Proofs.Ytibkpacjijbblaa.Pure
open Go Go.RowKit Go.Proofs.Ytibkpacjijbblaa.QBox Go.Proofs.YtibkpacjijbblaaW.PrintWords Go.Proofs.YtibkpacjijbblaaW.PrintLast Go.Proofs.YtibkpacjijbblaaW.PrintMore
theorem BoxRoomless : catafalquelaw11_BoxRoomless.Pure := by
  intro n first _
  refine ⟨101, ?_⟩
  unfold catafalquelaw11_BoxRoomless.f
  rw [shown_f 101 (by omega)]
  simp only [Option.bind_some, if_true]
  cases first with
  | true =>
    rw [if_pos rfl, recv_none 100 0 [] 1 (by simp)]
    simp only [Option.bind_some, List.nil_append]
    rw [send_wait 0 [] [] 1 [] 2 n (by simp)]
    rfl
  | false =>
    rw [if_neg (by decide), send_full 0 [] [] 1 n (by simp) (by simp)]
    simp only [Option.bind_some, List.nil_append]
    rw [recv_send 100 0 [] ⟨1, n⟩ [] [] 2 n [] rfl (by simp) (by simp)]
    simp
end Go.Proofs.Ytibkpacjijbblaa.Pure
