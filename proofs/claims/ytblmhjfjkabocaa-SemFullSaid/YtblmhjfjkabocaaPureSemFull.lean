/- The plain law SemFull. -/
import Derived.Test.YtblmhjfjkabocaaQSemPx3
import Derived.Test.YtblmhjfjkabocaaPlainSemP
namespace Go.Proofs.Ytblmhjfjkabocaa.Pure
open Go Go.RowKit Go.Proofs.Ytblmhjfjkabocaa.QSemP Go.Proofs.YtblmhjfjkabocaaW.PrintWords Go.Proofs.YtblmhjfjkabocaaW.PrintLast Go.Proofs.YtblmhjfjkabocaaW.PrintMore
set_option maxRecDepth 100000 in
theorem release_top (c : Int) (h0 : 0 ≤ c) (h : c ≤ 1000000) : sem_Release.f c [] = some (mn (wrap64 (c + 1)) 1000000, [], 0) := by
  have e : wrap64 (c + 1) = c + 1 := by unfold wrap64; omega
  by_cases h1 : c < 1000000
  · rw [release_none c h1 h0, e]
    have : mn (c + 1) 1000000 = c + 1 := by unfold mn; split <;> omega
    rw [this]
  · obtain rfl : c = 1000000 := by omega
    decide +kernel
set_option maxRecDepth 100000 in
theorem full_l0 (a b : Int) (n m : Nat) (hn : n < 10) (hm : m < 20) (ea : wrap64 (Int.tmod a 10) = (n : Int)) (eb : wrap64 (Int.tmod b 20) = (m : Int)) : ∀ (d k i : Nat) (c : Int), i ≤ m → m - i = d → d + 4000 < k → 0 ≤ c → c = min (1000000 - (n : Int) + (i : Int)) 1000000 →
    catafalquelaw10_SemFull.l0 k a b true (i : Int) c [] = some true := by
  intro d
  induction d with
  | zero =>
    intro k i c hi hd hk h0 hc
    obtain ⟨k, rfl⟩ : ∃ m, k = m + 1 := ⟨k - 1, by omega⟩
    have q : ¬ (i : Int) < (m : Int) := by omega
    have e : mn (wrap64 (wrap64 (1000000 - (n : Int)) + (m : Int))) 1000000 = c := by
      have e1 : wrap64 (1000000 - (n : Int)) = 1000000 - (n : Int) := by unfold wrap64; omega
      have e2 : wrap64 (1000000 - (n : Int) + (m : Int)) = 1000000 - (n : Int) + (m : Int) := by unfold wrap64; omega
      rw [e1, e2]; unfold mn; split <;> omega
    rw [catafalquelaw10_SemFull.l0, eb, ea, if_neg q, e, if_pos rfl]; simp
  | succ d ih =>
    intro k i c hi hd hk h0 hc
    obtain ⟨k, rfl⟩ : ∃ m, k = m + 1 := ⟨k - 1, by omega⟩
    have q : (i : Int) < (m : Int) := by omega
    have e1 : mn (wrap64 (c + 1)) 1000000 = min (1000000 - (n : Int) + ((i + 1 : Nat) : Int)) 1000000 := by
      have : wrap64 (c + 1) = c + 1 := by unfold wrap64; omega
      rw [this]; unfold mn; split <;> omega
    have my := may_yes k (min (1000000 - (n : Int) + ((i + 1 : Nat) : Int)) 1000000) [] (by omega) (by omega) (by omega) (fun _ => rfl) (by simp) (by simp) (by simp)
    have i1 := ih k (i + 1) _ (by omega) (by omega) (by omega) (by omega) rfl
    rw [catafalquelaw10_SemFull.l0, eb, if_pos q, release_top c h0 (by omega)]
    simp only [Option.bind_some, if_true]
    rw [e1, my]
    simp only [Option.bind_some, if_true]
    rw [wrap_nat i (by omega)]
    exact i1
set_option maxRecDepth 100000 in
theorem SemFull : catafalquelaw10_SemFull.Pure := by
  intro a b ha hb
  obtain ⟨n, hn, en⟩ := u8_mod ha 10 (by omega) (by omega)
  obtain ⟨m, hm, em⟩ := u8_mod hb 20 (by omega) (by omega)
  have ea : wrap64 (Int.tmod a 10) = (n : Int) := en
  have eb : wrap64 (Int.tmod b 20) = (m : Int) := em
  have e1 : wrap64 (1000000 - (n : Int)) = 1000000 - (n : Int) := by unfold wrap64; omega
  refine ⟨9000, ?_⟩
  unfold catafalquelaw10_SemFull.f
  rw [shown_f, ea, e1]
  simp only [Option.bind_some]
  exact full_l0 a b n m hn hm ea eb m 9000 0 _ (Nat.zero_le _) rfl (by omega) (by omega) (by omega)
end Go.Proofs.Ytblmhjfjkabocaa.Pure
