/- Walks over the program's functions, on values without memory, and what they come to. No condition. -/
import Derived.Test.YtbekdkhmpjamnaaFP
set_option linter.unusedVariables false
set_option linter.unusedSimpArgs false
namespace Go.Proofs.YtbekdkhmpjamnaaT.FQ
def pushL (L : List (List Int)) (i : Nat) (g : Int) : List (List Int) := L.set i (at' L i ++ [g])
def dropL (L : List (List Int)) (i : Nat) (g : Int) : List (List Int) := L.set i ((at' L i).filter fun y => decide (y ≠ g))
theorem inF_set {n : Nat} {L : List (List Int)} (h : WF n L) {i : Nat} {x : Int} (hi : i < L.length) (l : List Int) (hx : (x ∈ l) ↔ x ∈ at' L i) : inF (L.set i l) x = inF L x := by
  have key : ∀ j, x ∈ at' (L.set i l) j ↔ x ∈ at' L j := by
    intro j; rw [at_set hi]; split
    · rename_i e; subst e; exact hx
    · rfl
  by_cases h0 : inF L x = 0
  · rw [h0]
    rw [inF_zero] at h0 ⊢
    intro l' hl'
    obtain ⟨j, hj, rfl⟩ := mem_at hl'
    rw [key]; rw [List.length_set] at hj
    exact h0 _ (at_in hj)
  · obtain ⟨j, h1, h2, h3⟩ := inF_lt h0
    rw [h1]
    exact inF_some (by rw [List.length_set]; exact h2) ((key j).2 h3) fun k hk hxk => by have := h.one _ _ _ h3 ((key k).1 hxk); omega
theorem nxF_set {n : Nat} {L : List (List Int)} (h : WF n L) {i : Nat} {x : Int} (hi : i < L.length) (l : List Int) (hx : (x ∈ l) ↔ x ∈ at' L i) : nxF (L.set i l) x = if x ∈ at' L i then nxt l x else nxF L x := by
  have key : ∀ j, x ∈ at' (L.set i l) j ↔ x ∈ at' L j := by
    intro j; rw [at_set hi]; split
    · rename_i e; subst e; exact hx
    · rfl
  by_cases h0 : inF L x = 0
  · rw [inF_zero] at h0
    rw [if_neg (h0 _ (at_in hi)), nxF_none h0, nxF_none]
    intro l' hl'
    obtain ⟨j, hj, rfl⟩ := mem_at hl'
    rw [key]; rw [List.length_set] at hj
    exact h0 _ (at_in hj)
  · obtain ⟨j, h1, h2, h3⟩ := inF_lt h0
    rw [nxF_some (by rw [List.length_set]; exact h2) ((key j).2 h3) fun k hk hxk => by have := h.one _ _ _ h3 ((key k).1 hxk); omega, at_set hi, h.nxF h2 h3]
    by_cases e : j = i
    · subst e; rw [if_pos rfl, if_pos h3]
    · rw [if_neg e, if_neg]
      intro h4; exact e (h.one _ _ _ h3 h4)
theorem head_app (l : List Int) (g : Int) : (l ++ [g]).headD 0 = if l = [] then g else l.headD 0 := by cases l <;> simp
/-- g is nowhere. -/
theorem push_in {n : Nat} {L : List (List Int)} (h : WF n L) {i : Nat} {g : Int} (hi : i < L.length) (hg : inF L g = 0) (x : Int) : inF (pushL L i g) x = if x = g then (i : Int) + 1 else inF L x := by
  rw [inF_zero] at hg
  by_cases hx : x = g
  · subst hx
    rw [if_pos rfl]
    refine inF_some (by unfold pushL; rw [List.length_set]; exact hi) (by unfold pushL; rw [at_set hi, if_pos rfl]; simp) fun j hj hxj => ?_
    unfold pushL at hxj
    rw [at_set hi, if_neg (by omega)] at hxj
    exact hg _ (at_in (by omega)) hxj
  · rw [if_neg hx]
    exact inF_set h hi _ (by simp [hx])
theorem push_nx {n : Nat} {L : List (List Int)} (h : WF n L) {i : Nat} {g : Int} (hi : i < L.length) (hg : inF L g = 0) (x : Int) : nxF (pushL L i g) x = if at' L i ≠ [] ∧ x = lst (at' L i) then g else nxF L x := by
  have hg' := inF_zero.1 hg
  have hgi : g ∉ at' L i := hg' _ (at_in hi)
  by_cases hx : x = g
  · subst hx
    have h1 : nxF (pushL L i x) x = 0 := by
      rw [nxF_some (i := i) (by unfold pushL; rw [List.length_set]; exact hi) (by unfold pushL; rw [at_set hi, if_pos rfl]; simp) fun j hj hxj => by
        unfold pushL at hxj
        rw [at_set hi, if_neg (by omega)] at hxj
        exact hg' _ (at_in (by omega)) hxj]
      unfold pushL; rw [at_set hi, if_pos rfl, nxt_app hgi]; rfl
    rw [h1, if_neg, nxF_none hg']
    rintro ⟨h2, h3⟩
    exact hgi (h3 ▸ lst_mem h2)
  · unfold pushL
    rw [nxF_set h hi _ (by simp [hx])]
    by_cases h2 : x ∈ at' L i
    · rw [if_pos h2, nxt_push (h.nd _ (at_in hi)) hgi]
      split
      · rfl
      · rw [h.nxF hi h2]
    · rw [if_neg h2, if_neg]
      rintro ⟨h3, h4⟩
      exact h2 (h4 ▸ lst_mem h3)
theorem push_q {L : List (List Int)} {i : Nat} {g : Int} (hi : i < L.length) : qF (pushL L i g) = (qF L).set i (if at' L i = [] then g else (at' L i).headD 0, g) := by
  unfold qF pushL
  rw [List.map_set, head_app, lst_app]
theorem WF.push {n : Nat} {L : List (List Int)} (h : WF n L) {i : Nat} {g : Int} (hi : i < L.length) (hg : FQ.inF L g = 0) (h1 : 1 ≤ g) (h2 : g ≤ n) : WF n (pushL L i g) := by
  have hg' := inF_zero.1 hg
  have hgi : g ∉ at' L i := hg' _ (at_in hi)
  have key : ∀ l ∈ pushL L i g, l = at' L i ++ [g] ∨ l ∈ L := by
    intro l hl
    rcases List.mem_or_eq_of_mem_set hl with h | h
    · exact .inr h
    · exact .inl h
  have keyat : ∀ j x, x ∈ at' (pushL L i g) j → x ∈ at' L j ∨ (j = i ∧ x = g) := by
    intro j x hx
    unfold pushL at hx; rw [at_set hi] at hx
    split at hx
    · rename_i e; subst e
      rcases List.mem_append.1 hx with hx | hx
      · exact .inl hx
      · exact .inr ⟨rfl, by simpa using hx⟩
    · exact .inl hx
  refine ⟨fun l hl x hx => ?_, fun l hl => ?_, fun j k x hj hk => ?_⟩
  · rcases key l hl with rfl | hl
    · rcases List.mem_append.1 hx with hx | hx
      · exact h.pos _ (at_in hi) x hx
      · simp only [List.mem_singleton] at hx; subst hx; exact ⟨h1, h2⟩
    · exact h.pos l hl x hx
  · rcases key l hl with rfl | hl
    · rw [List.nodup_append]
      exact ⟨h.nd _ (at_in hi), by simp, fun a ha b hb e => by simp only [List.mem_singleton] at hb; subst hb; subst e; exact hgi ha⟩
    · exact h.nd l hl
  · rcases keyat j x hj with hj' | ⟨rfl, rfl⟩ <;> rcases keyat k x hk with hk' | ⟨rfl, hx⟩
    · exact h.one _ _ _ hj' hk'
    · subst hx; obtain ⟨l, hl, hxl, _⟩ := at_mem hj'; exact absurd hxl (hg' l hl)
    · obtain ⟨l, hl, hxl, _⟩ := at_mem hk'; exact absurd hxl (hg' l hl)
    · rfl
theorem filt (p s : List Int) (g : Int) (hn : (p ++ g :: s).Nodup) : (p ++ g :: s).filter (fun y => decide (y ≠ g)) = p ++ s := by
  obtain ⟨h1, h2, h3⟩ := List.nodup_append.1 hn
  have hg := List.nodup_cons.1 h2
  rw [List.filter_append, List.filter_cons]
  simp only [ne_eq, not_true_eq_false, decide_false, Bool.false_eq_true, if_false]
  rw [List.filter_eq_self.2 fun y hy => by simpa using fun e => h3 y hy g (List.mem_cons_self ..) e, List.filter_eq_self.2 fun y hy => by simp only [decide_eq_true_eq]; intro e; subst e; exact hg.1 hy]
/-- g stands in the i-th, behind p. -/
theorem drop_in {n : Nat} {L : List (List Int)} (h : WF n L) {i : Nat} {g : Int} (hi : i < L.length) (hg : g ∈ at' L i) (x : Int) : inF (dropL L i g) x = if x = g then 0 else inF L x := by
  by_cases hx : x = g
  · subst hx
    rw [if_pos rfl, inF_zero]
    intro l hl
    obtain ⟨j, hj, rfl⟩ := mem_at hl
    unfold dropL; rw [at_set hi]
    split
    · simp
    · rename_i e; exact fun h2 => e (h.one _ _ _ h2 hg)
  · rw [if_neg hx]
    exact inF_set h hi _ (by simp [hx])
theorem drop_nx {n : Nat} {L : List (List Int)} (h : WF n L) {i : Nat} {g : Int} (hi : i < L.length) {p s : List Int} (hg : at' L i = p ++ g :: s) (x : Int) : nxF (dropL L i g) x = if x = g then 0 else if p ≠ [] ∧ x = lst p then s.headD 0 else nxF L x := by
  have hn := h.nd _ (at_in hi)
  have hgi : g ∈ at' L i := by rw [hg]; simp
  by_cases hx : x = g
  · subst hx
    rw [if_pos rfl, nxF_none]
    rw [← inF_zero, drop_in h hi hgi, if_pos rfl]
  · rw [if_neg hx]
    unfold dropL
    rw [nxF_set h hi _ (by simp [hx])]
    by_cases h2 : x ∈ at' L i
    · rw [if_pos h2, hg, filt _ _ _ (hg ▸ hn), nxt_drop (hg ▸ hn), if_neg hx, h.nxF hi h2, hg]
    · rw [if_neg h2, if_neg]
      rintro ⟨h3, h4⟩
      exact h2 (by rw [hg, h4]; exact List.mem_append_left _ (lst_mem h3))
theorem drop_q {n : Nat} {L : List (List Int)} (h : WF n L) {i : Nat} {g : Int} (hi : i < L.length) {p s : List Int} (hg : at' L i = p ++ g :: s) : qF (dropL L i g) = (qF L).set i ((if p = [] then s.headD 0 else p.headD 0), if s = [] then lst p else lst s) := by
  have hn := h.nd _ (at_in hi)
  unfold qF dropL
  rw [List.map_set, hg, filt _ _ _ (hg ▸ hn)]
  congr 2
  · cases p <;> simp
  · cases s with
    | nil => simp
    | cons a s => 
      have h1 : ∀ (q : List Int), lst (q ++ a :: s) = lst (a :: s) := by
        intro q
        unfold lst
        rw [List.getLastD_eq_getLast?, List.getLastD_eq_getLast?, List.getLast?_append, List.getLast?_eq_some_getLast (l := a :: s) (by simp)]
        rfl
      rw [if_neg (by simp), h1]
theorem WF.drop {n : Nat} {L : List (List Int)} (h : WF n L) {i : Nat} {g : Int} (hi : i < L.length) : WF n (dropL L i g) := by
  have key : ∀ l ∈ dropL L i g, l = (at' L i).filter (fun y => decide (y ≠ g)) ∨ l ∈ L := by
    intro l hl
    rcases List.mem_or_eq_of_mem_set hl with h | h
    · exact .inr h
    · exact .inl h
  have keyat : ∀ j x, x ∈ at' (dropL L i g) j → x ∈ at' L j := by
    intro j x hx
    unfold dropL at hx; rw [at_set hi] at hx
    split at hx
    · rename_i e; subst e
      exact (List.mem_filter.1 hx).1
    · exact hx
  refine ⟨fun l hl x hx => ?_, fun l hl => ?_, fun j k x hj hk => h.one _ _ _ (keyat j x hj) (keyat k x hk)⟩
  · rcases key l hl with rfl | hl
    · exact h.pos _ (at_in hi) x ((List.mem_filter.1 hx).1)
    · exact h.pos l hl x hx
  · rcases key l hl with rfl | hl
    · exact (h.nd _ (at_in hi)).filter _
    · exact h.nd l hl
theorem WF.nil (n m : Nat) : WF n (List.replicate m []) := by
  have hat : ∀ i, at' (List.replicate m ([] : List Int)) i = [] := by
    intro i; unfold at'; rw [List.getD_eq_getElem?_getD, List.getElem?_replicate]; split <;> rfl
  exact ⟨fun l hl x hx => by rw [List.eq_of_mem_replicate hl] at hx; simp at hx, fun l hl => by rw [List.eq_of_mem_replicate hl]; exact List.nodup_nil, fun i j x hx => by rw [hat] at hx; simp at hx⟩
theorem nxF_nil (m : Nat) (x : Int) : nxF (List.replicate m []) x = 0 := nxF_none fun l hl => by rw [List.eq_of_mem_replicate hl]; simp
theorem inF_nil (m : Nat) (x : Int) : inF (List.replicate m []) x = 0 := inF_zero.2 fun l hl => by rw [List.eq_of_mem_replicate hl]; simp
theorem qF_nil (m : Nat) : qF (List.replicate m []) = List.replicate m (0, 0) := by simp [qF, lst]
theorem qF_get {L : List (List Int)} {i : Nat} (hi : i < L.length) : (qF L).getD i (0, 0) = ((at' L i).headD 0, lst (at' L i)) := by
  unfold qF at'
  rw [List.getD_eq_getElem?_getD, List.getD_eq_getElem?_getD, List.getElem?_map, List.getElem?_eq_getElem hi]; rfl
theorem qF_len (L : List (List Int)) : (qF L).length = L.length := by simp [qF]
/-- The rows, after one more, or one less. -/
theorem push_nxrow {n : Nat} {L : List (List Int)} (h : WF n L) {i : Nat} {g : Int} (hi : i < L.length) (hg : inF L g = 0) : row n (nxF (pushL L i g)) = if at' L i = [] then row n (nxF L) else (row n (nxF L)).set (lst (at' L i)).toNat g := by
  split
  · rename_i e
    exact row_congr _ _ _ fun y _ _ => by rw [push_nx h hi hg, if_neg (fun h => h.1 e)]
  · rename_i e
    have hp := (h.pos _ (at_in hi) _ (lst_mem e)).1
    exact (row_set _ _ _ _ _ (by omega) (by rw [push_nx h hi hg, if_pos ⟨e, rfl⟩]) (fun y hy => by rw [push_nx h hi hg, if_neg (fun h => hy h.2)])).symm
theorem row_self {n : Nat} {f : Int → Int} {x : Int} (h0 : 0 ≤ x) (v : Int) (hv : f x = v) : (row n f).set x.toNat v = row n f := row_set n f f x v h0 hv fun _ _ => rfl
theorem push_inrow {n : Nat} {L : List (List Int)} (h : WF n L) {i : Nat} {g : Int} (hi : i < L.length) (hg : inF L g = 0) (h1 : 1 ≤ g) : (row n (inF L)).set g.toNat ((i : Int) + 1) = row n (inF (pushL L i g)) :=
  row_set _ _ _ _ _ (by omega) (by rw [push_in h hi hg, if_pos rfl]) (fun y hy => by rw [push_in h hi hg, if_neg hy])
theorem drop_inrow {n : Nat} {L : List (List Int)} (h : WF n L) {i : Nat} {g : Int} (hi : i < L.length) (hg : g ∈ at' L i) : (row n (inF L)).set g.toNat 0 = row n (inF (dropL L i g)) := by
  have hp := (h.pos _ (at_in hi) _ hg).1
  exact row_set _ _ _ _ _ (by omega) (by rw [drop_in h hi hg, if_pos rfl]) (fun y hy => by rw [drop_in h hi hg, if_neg hy])
theorem drop_nxrow {n : Nat} {L : List (List Int)} (h : WF n L) {i : Nat} {g : Int} (hi : i < L.length) {p s : List Int} (hg : at' L i = p ++ g :: s) : row n (nxF (dropL L i g)) = if p = [] then (row n (nxF L)).set g.toNat 0 else ((row n (nxF L)).set (lst p).toNat (s.headD 0)).set g.toNat 0 := by
  have hn := h.nd _ (at_in hi)
  have hgi : g ∈ at' L i := by rw [hg]; simp
  have hp := (h.pos _ (at_in hi) _ hgi).1
  split
  · rename_i e
    exact (row_set _ _ _ _ _ (by omega) (by rw [drop_nx h hi hg, if_pos rfl]) (fun y hy => by rw [drop_nx h hi hg, if_neg hy, if_neg (fun h => h.1 e)])).symm
  · rename_i e
    have hlp : lst p ∈ at' L i := by rw [hg]; exact List.mem_append_left _ (lst_mem e)
    have hp2 := (h.pos _ (at_in hi) _ hlp).1
    have hne : lst p ≠ g := by
      intro e2
      rw [hg] at hn
      exact (List.nodup_append.1 hn).2.2 _ (lst_mem e) g (List.mem_cons_self ..) e2
    rw [row_set n (nxF L) (fun y => if y = lst p then s.headD 0 else nxF L y) (lst p) (s.headD 0) (by omega) (by simp) (fun y hy => by simp [hy])]
    exact (row_set _ _ _ _ _ (by omega) (by rw [drop_nx h hi hg, if_pos rfl]) (fun y hy => by
      rw [drop_nx h hi hg, if_neg hy]
      by_cases h2 : y = lst p
      · rw [if_pos ⟨e, h2⟩]; simp [h2]
      · rw [if_neg (fun h => h2 h.2)]; simp [h2])).symm
end Go.Proofs.YtbekdkhmpjamnaaT.FQ
