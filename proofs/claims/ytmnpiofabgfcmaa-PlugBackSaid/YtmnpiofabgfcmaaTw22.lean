/- Walks over the program's functions, on values without memory, and what they come to. No condition. -/
import Derived.Test.YtmnpiofabgfcmaaTw21
set_option linter.unusedVariables false
set_option linter.unusedSimpArgs false
namespace Go.Proofs.YtmnpiofabgfcmaaT
open Go Go.RowKit
variable {P : Program} {st : St} {K : St → Prop} {Q : Exit → St → Prop} {cx : Cx}
theorem vOps_part {ops : Array Oper} {K1 : St → Prop} : ∀ (os : List Oper) (i : Nat), os <+: ops.toList.drop i → ∀ {st : St} {a : Act} {w : World}, FR cx st a w → vOps P ops os st K1 → (∀ st' a' w', K1 st' → FR cx st' a' w' → wpOps P ops (Nx cx K) ((List.range ops.size).drop (i + os.length)) a' w') → wpOps P ops (Nx cx K) ((List.range ops.size).drop i) a w
 | [], i, hd, st, a, w, h, hv, hk => hk st a w hv h
 | o :: os, i, hd, st, a, w, h, hv, hk => by
  obtain ⟨t, ht⟩ := hd
  have hi : i < ops.size := by
   rcases Nat.lt_or_ge i ops.size with hl | hl
   ·exact hl
   ·rw [List.drop_eq_nil_of_le (by simp; omega)] at ht; cases ht
  have ho : ops[i]? = some o := by
   have := congrArg (fun l => l[0]?) ht
   simpa using this.symm
  have hd' : os <+: ops.toList.drop (i + 1) := by
   have := congrArg List.tail ht
   exact ⟨t, by simpa using this⟩
  have hr : (List.range ops.size).drop i = i :: (List.range ops.size).drop (i + 1) := by
   rw [List.drop_eq_getElem_cons (by simpa using hi)]
   simp
  rw [hr, wpOps_cons]
  exact vGuard_sound ho h hv (fun a' w' hk' => by
   obtain ⟨st', hk2, hf⟩ := hk'
   refine vOps_part os (i + 1) hd' hf hk2 (fun st'' a'' w'' h1 h2 => ?_)
   have := hk st'' a'' w'' h1 h2
   rwa [show i + 1 + os.length = i + (o :: os).length by simp; omega])
theorem TW_split {id : Nat} {l : List Oper} (n : Nat) (h : Ops P l.toArray (l.take n) st fun s => ∃ s', Sub s s' ∧ Ops P l.toArray (l.drop n) s' fun st' => Q .normal st') : TW P (.region id l.toArray false) Q st := by
 refine .mk fun cx a w hf => ?_
 refine wp_mono (wp_region (Q := Nx cx fun st' => Q .normal st') ?_) ?_
 ·have := vOps_part (cx := cx) (ops := l.toArray) (K := fun st' => Q .normal st') (l.take n) 0 (by simpa using List.take_prefix n l) hf h.run (fun st' a' w' ⟨s', hs, h2⟩ hf' => by
   refine vOps_sound (l.drop n) _ ?_ (hs _ _ _ hf') h2.run
   rcases Nat.le_total n l.length with hl | hl
   ·simp [Nat.min_eq_left hl]
   ·simp [Nat.min_eq_right hl, List.drop_eq_nil_of_le hl])
  simpa using this
 ·intro e a' w' hn
  cases e with
  | normal => obtain ⟨st', h1, h2⟩ := hn; exact ⟨st', h1, h2⟩
  | _ => exact hn.elim
end Go.Proofs.YtmnpiofabgfcmaaT
