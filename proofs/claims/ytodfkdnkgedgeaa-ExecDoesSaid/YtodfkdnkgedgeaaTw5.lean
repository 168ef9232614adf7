/- Walks over the program's functions, on values without memory, and what they come to. No condition. -/
import Derived.Test.YtodfkdnkgedgeaaTw4
set_option linter.unusedVariables false
set_option linter.unusedSimpArgs false
namespace Go.Proofs.YtodfkdnkgedgeaaT
open Go Go.RowKit
variable {cx : Cx} {Im : Nat → Prop} {M : Nat → Option Value} {st : St} {a : Act} {w : World} {P : Program} {K : St → Prop} {Q : Exit → Act → World → Prop}
theorem load_take {t : TypeId} {d : TypeDesc} (hd : P.underlying t = some d) {ad : Addr} {cs : List AV} (hc : ∀ (j : Nat) y, cs[j]? = some y → ∃ u, w.cell? (ad.add j) = some u ∧ u.oneCell' = true ∧ R Im w M u y) {N : AV → Prop}
  (h : takeA (Go.Proofs.YtodfkdnkgedgeaaT.isAgg P t) (P.cellsOf t) cs N) : ∃ v x, (loadVar t ad).run P w = .ok v w ∧ R Im w M v x ∧ N x := by
 unfold takeA at h
 by_cases hg : Go.Proofs.YtodfkdnkgedgeaaT.isAgg P t = true
 ·rw [if_pos hg] at h
  obtain ⟨h0, hn, hN⟩ := h
  have hex : ∀ j, ∃ u, j < P.cellsOf t → w.cell? (ad.add j) = some u ∧ u.oneCell' = true ∧ ∀ y, cs[j]? = some y → R Im w M u y := by
   intro j
   by_cases hj : j < P.cellsOf t
   ·obtain ⟨u, h1, h2, h3⟩ := hc j cs[j] (List.getElem?_eq_getElem (by omega))
    exact ⟨u, fun _ => ⟨h1, h2, fun y hy => by rw [List.getElem?_eq_getElem (by omega)] at hy; cases hy; exact h3⟩⟩
   ·exact ⟨.bool false, fun h => absurd h hj⟩
  obtain ⟨f, hf⟩ := Classical.axiomOfChoice hex
  refine ⟨.agg ((List.range (P.cellsOf t)).map f).toArray, _, ?_, ?_, hN⟩
  ·unfold loadVar
   simp only [Sem.run_bind, run_isAgg hd, Result.andThen_ok, hg, if_true, run_sizeOf h0, run_loadCells w ad (P.cellsOf t) f (fun j hj => (hf j hj).1), Sem.run_pure]
  ·refine .agg _ _ (by simp; omega) (fun v hv => ?_) (fun i v c hv hcc => ?_)
   ·simp only [List.mem_toArray, List.mem_map, List.mem_range] at hv
    obtain ⟨j, hj, rfl⟩ := hv
    exact (hf j hj).2.1
   ·simp only [List.getElem?_toArray, List.getElem?_map] at hv
    rw [List.getElem?_take] at hcc
    split at hcc
    ·rename_i hi
     rw [List.getElem?_range hi] at hv
     simp only [Option.map_some, Option.some.injEq] at hv
     subst hv
     exact (hf i hi).2.2 c hcc
    ·cases hcc
 ·rw [if_neg hg] at h
  cases cs with
  | nil => exact h.elim
  | cons c r =>
   obtain ⟨u, h1, _, h3⟩ := hc 0 c rfl
   refine ⟨u, c, ?_, h3, h⟩
   have h0 : ad.add 0 = ad := by unfold Addr.add; rw [if_pos rfl]
   rw [h0] at h1
   unfold loadVar
   simp only [Sem.run_bind, run_isAgg hd, Result.andThen_ok, hg, Bool.false_eq_true, if_false, run_load, h1]
theorem add_lit (b o n : Nat) : Addr.add ⟨b, o, none⟩ n = ⟨b, o + n, none⟩ := by unfold Addr.add; split <;> simp_all
theorem cell_heap {b : Nat} {vs : Array Value} {ty : TypeId} {fr : Nat × Nat} (h : w.heap[b]? = some (.cells vs ty fr)) (j : Nat) : w.cell? ⟨b, j, none⟩ = vs[j]? := by simp [World.cell?, h]
theorem arr_cells {v : Value} {e sz n : Nat} {xs : List Value} {es : List (List AV)} (ho : w.ownsRow 0 e sz v n xs) (hc : Chunks Im w sz xs es) {g c : Nat} (hv : v = .slice (some ⟨g, 0, none⟩) n c) {i : Nat} (hi : i < es.length) :
  ∀ (j : Nat) y, (es.getD i [])[j]? = some y → ∃ u, w.cell? ⟨g, i * sz + j, none⟩ = some u ∧ u.oneCell' = true ∧ R Im w (fun _ => none) u y := by
 intro j y hj
 have he : es[i]? = some (es.getD i []) := by rw [List.getD_eq_getElem?_getD, List.getElem?_eq_getElem hi]; rfl
 obtain ⟨u, hu, hr⟩ := hc.2.2 i _ j y he hj
 refine ⟨u, ?_, hc.2.1 u (List.mem_of_getElem? hu), hr⟩
 have := ho.cells (g := g) (by rw [hv]; rfl) _ u hu
 rwa [add_lit, Nat.zero_add] at this
theorem vLoad_sound (h : FRx cx Im M st a w) {t : TypeId} {x : AV} {v : Value} (hr : R Im w M v x) {N : AV → Prop} (hl : vLoad P t st x N) : ∃ u y, (Instr.loadAt t v).run P w = .ok u w ∧ R Im w M u y ∧ N y := by
 unfold vLoad at hl
 obtain ⟨hsome, hl⟩ := hl
 obtain ⟨d, hd⟩ := Option.isSome_iff_exists.1 hsome
 have go : ∀ ad, v = .pointer (some ad) → (∃ u y, (loadVar t ad).run P w = .ok u w ∧ R Im w M u y ∧ N y) → ∃ u y, (Instr.loadAt t v).run P w = .ok u w ∧ R Im w M u y ∧ N y := by
  rintro ad rfl ⟨u, y, h1, h2⟩
  exact ⟨u, y, by simp [Instr.loadAt, Instr.sureAddr, h1], h2⟩
 split at hl
 ·rename_i id off
  obtain ⟨b, rfl, hm⟩ := R_ptr hr
  refine go _ rfl ?_
  split at hl
  ·rename_i cs hcs
   obtain ⟨b', vs, ty, h1, h2, h3, h4, h5⟩ := h.ob id _ hcs
   rw [hm] at h1
   simp only [Option.some.injEq, Value.pointer.injEq, Addr.mk.injEq, and_true] at h1
   subst h1
   refine load_take hd (fun j y hj => ?_) hl
   rw [List.getElem?_drop] at hj
   have hlt : off + j < vs.size := by rw [h3]; exact (List.getElem?_eq_some_iff.1 hj).1
   refine ⟨vs[off + j], ?_, h4 _ (Array.getElem_mem hlt), h5 _ _ y (Array.getElem?_eq_getElem hlt) hj⟩
   rw [add_lit, cell_heap h2, Array.getElem?_eq_getElem hlt]
  ·rename_i cs hcs
   obtain ⟨b', h1, h2⟩ := h.ob id _ hcs
   rw [hm] at h1
   simp only [Option.some.injEq, Value.pointer.injEq, Addr.mk.injEq, and_true] at h1
   subst h1
   obtain ⟨ad, f, he, hi, hrr, hoo, hv⟩ := R_cptr h2
   cases he
   refine load_take hd (fun j y hj => ?_) hl
   rw [List.getElem?_drop] at hj
   refine ⟨f (off + j), ?_, hoo _ y hj, (hv _ y hj).pure0⟩
   have := hrr _ y hj
   rw [add_lit] at this ⊢
   rwa [Nat.zero_add] at this
  ·exact hl.elim
 ·rename_i cs
  obtain ⟨ad, f, rfl, hi, hrr, hoo, hv⟩ := R_cptr hr
  exact go _ rfl (load_take hd (fun j y hj => ⟨f j, hrr j y hj, hoo j y hj, (hv j y hj).pure0⟩) hl)
 ·rename_i id idx sz foff
  obtain ⟨g, n, c, rfl, hm⟩ := R_eptr hr
  refine go _ rfl ?_
  split at hl
  ·rename_i e sz' es hcs
   obtain ⟨rfl, hlt, hl⟩ := hl
   obtain ⟨v, xs, h1, h2, h3⟩ := h.ob id _ hcs
   rw [hm] at h1
   cases h1
   have hn : n = es.length := by
    rcases owns_block h2 with ⟨he, h0, _⟩ | ⟨g', c', he, _⟩ <;> cases he
    rfl
   subst hn
   refine load_take hd (fun j y hj => ?_) hl
   rw [List.getElem?_drop] at hj
   obtain ⟨u, k1, k2, k3⟩ := arr_cells h2 h3 rfl hlt _ y hj
   exact ⟨u, by rw [add_lit, Nat.add_assoc]; exact k1, k2, k3.pure0⟩
  ·rename_i es hcs
   obtain ⟨hlt, hsz, hl⟩ := hl
   obtain ⟨v, h1, h2⟩ := h.ob id _ hcs
   rw [hm] at h1
   cases h1
   obtain ⟨o', c', ad, sz', cs, he, h3, h4, h5, h6, h7, h8, h9, h10⟩ := R_sl h2
   simp only [Value.slice.injEq] at he
   obtain ⟨rfl, rfl, rfl⟩ := he
   obtain ⟨had, hi⟩ := h6 (by omega)
   cases had
   have hel : es[idx]? = some (es.getD idx []) := by rw [List.getD_eq_getElem?_getD, List.getElem?_eq_getElem hlt]; rfl
   have : sz' = sz := (h7 idx _ hel).symm.trans hsz
   subst this
   refine load_take hd (fun j y hj => ?_) hl
   rw [List.getElem?_drop] at hj
   refine ⟨cs idx (foff + j), ?_, h9 _ _ _ _ hel hj, (h10 _ _ _ _ hel hj).pure0⟩
   have := h8 _ _ _ _ hel hj
   rw [add_lit] at this ⊢
   rwa [Nat.zero_add, ← Nat.add_assoc] at this
  ·exact hl.elim
 ·exact hl.elim
theorem op_load (h : FRx cx Im M st a w) {o : Oper} {t : TypeId} {x : Operand} (ho : o.op = .load t x) (hl : vLoad P t st (ev st x) fun y => K (Go.Proofs.YtodfkdnkgedgeaaT.put st o.dst y)) : o.wp P a w (Kx cx K) Q := by
 obtain ⟨u, y, h1, h2, h3⟩ := vLoad_sound h (ev_sound h x) hl
 exact wp_val (v := u) (w' := w) (by simp [execOp, ho, h1]) (Kx.mk (h.put h2 _) h3)
end Go.Proofs.YtodfkdnkgedgeaaT
