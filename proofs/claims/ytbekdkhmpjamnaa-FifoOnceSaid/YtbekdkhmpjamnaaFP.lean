/- Walks over the program's functions, on values without memory, and what they come to. No condition. -/

set_option linter.unusedVariables false
set_option linter.unusedSimpArgs false
namespace Go.Proofs.YtbekdkhmpjamnaaT.FQ

/-- Who is behind x in l; 0: nobody. -/
def nxt : List Int → Int → Int
  | [], _ => 0
  | a :: l, x => if a = x then l.headD 0 else nxt l x
/-- The number of the first queue in which x stands, from 1 on; 0: in none. -/
def inF : List (List Int) → Int → Int
  | [], _ => 0
  | l :: r, x => if x ∈ l then 1 else if inF r x = 0 then 0 else inF r x + 1
def nxF : List (List Int) → Int → Int
  | [], _ => 0
  | l :: r, x => if x ∈ l then nxt l x else nxF r x
def lst (l : List Int) : Int := l.getLastD 0
def qF (L : List (List Int)) : List (Int × Int) := L.map fun l => (l.headD 0, lst l)
def row (n : Nat) (f : Int → Int) : List Int := (List.range (n + 1)).map fun (i : Nat) => f (i : Int)
def at' (L : List (List Int)) (i : Nat) : List Int := L.getD i []

structure WF (n : Nat) (L : List (List Int)) : Prop where
  pos : ∀ l ∈ L, ∀ x ∈ l, 1 ≤ x ∧ x ≤ n
  nd : ∀ l ∈ L, l.Nodup
  one : ∀ (i j : Nat) (x : Int), x ∈ at' L i → x ∈ at' L j → i = j

theorem row_len (n : Nat) (f : Int → Int) : (row n f).length = n + 1 := by simp [row]
theorem row_get (n : Nat) (f : Int → Int) (i : Nat) (h : i < n + 1) : (row n f)[i]? = some (f (i : Int)) := by
  simp [row, h]
theorem row_getD (n : Nat) (f : Int → Int) (x : Int) (h0 : 0 ≤ x) (h : x ≤ n) (d : Int) : (row n f).getD x.toNat d = f x := by
  rw [List.getD_eq_getElem?_getD, row_get _ _ _ (by omega)]
  simp only [Option.getD_some]
  congr 1; omega
theorem row_set (n : Nat) (f g : Int → Int) (x v : Int) (h0 : 0 ≤ x) (hx : g x = v) (hg : ∀ y, y ≠ x → g y = f y) : (row n f).set x.toNat v = row n g := by
  apply List.ext_getElem?
  intro i
  rw [List.getElem?_set]
  by_cases hi : i < n + 1
  · rw [row_get _ _ _ hi, row_get _ _ _ hi]
    split
    · rename_i e
      subst e
      rw [row_len, if_pos hi, ← hx]
      congr 2; omega
    · rename_i e
      rw [hg _ (by omega)]
  · rw [List.getElem?_eq_none (by rw [row_len]; omega), List.getElem?_eq_none (by rw [row_len]; omega)]
    split
    · rw [row_len, if_neg (by omega)]
    · rfl
theorem row_congr (n : Nat) (f g : Int → Int) (h : ∀ y, 0 ≤ y → y ≤ n → f y = g y) : row n f = row n g := by
  unfold row
  apply List.map_congr_left
  intro i hi
  simp only [List.mem_range] at hi
  exact h _ (by omega) (by omega)

theorem at_mem {L : List (List Int)} {i : Nat} {x : Int} (h : x ∈ at' L i) : ∃ l ∈ L, x ∈ l ∧ i < L.length := by
  unfold at' at h
  rw [List.getD_eq_getElem?_getD] at h
  rcases Nat.lt_or_ge i L.length with hi | hi
  · rw [List.getElem?_eq_getElem hi] at h
    exact ⟨_, List.getElem_mem hi, h, hi⟩
  · rw [List.getElem?_eq_none hi] at h; simp at h
theorem at_in {L : List (List Int)} {i : Nat} (h : i < L.length) : at' L i ∈ L := by
  unfold at'
  rw [List.getD_eq_getElem?_getD, List.getElem?_eq_getElem h]
  exact List.getElem_mem h
theorem mem_at {L : List (List Int)} {l : List Int} (h : l ∈ L) : ∃ i, i < L.length ∧ at' L i = l := by
  obtain ⟨i, hi, rfl⟩ := List.mem_iff_getElem.1 h
  exact ⟨i, hi, by unfold at'; rw [List.getD_eq_getElem?_getD, List.getElem?_eq_getElem hi]; rfl⟩
theorem at_set {L : List (List Int)} {i j : Nat} {l : List Int} (h : i < L.length) : at' (L.set i l) j = if j = i then l else at' L j := by
  unfold at'
  rw [List.getD_eq_getElem?_getD, List.getD_eq_getElem?_getD, List.getElem?_set]
  by_cases e : j = i
  · subst e; simp [h]
  · rw [if_neg (fun h => e h.symm), if_neg e]

/-- inF, by places. -/
theorem inF_nonneg : ∀ (L : List (List Int)) (x : Int), 0 ≤ inF L x
  | [], _ => by simp [inF]
  | l :: r, x => by
    have := inF_nonneg r x
    unfold inF; split
    · omega
    · split <;> omega
theorem inF_zero : ∀ {L : List (List Int)} {x : Int}, inF L x = 0 ↔ ∀ l ∈ L, x ∉ l
  | [], _ => by simp [inF]
  | l :: r, x => by
    have := inF_nonneg r x
    have ih := @inF_zero r x
    unfold inF
    by_cases h : x ∈ l
    · simp [h]
    · rw [if_neg h]
      by_cases h2 : inF r x = 0
      · simp [h2, h, ih.1 h2]
        intro l' hl'; exact ih.1 h2 l' hl'
      · rw [if_neg h2]
        constructor
        · intro h3; omega
        · intro h3; exact absurd (ih.2 fun l' hl' => h3 l' (List.mem_cons_of_mem _ hl')) h2
theorem inF_some : ∀ {L : List (List Int)} {x : Int} {i : Nat}, i < L.length → x ∈ at' L i → (∀ j, j < i → x ∉ at' L j) → inF L x = (i : Int) + 1
  | l :: r, x, 0, _, hx, _ => by
    have : x ∈ l := by simpa [at'] using hx
    simp [inF, this]
  | l :: r, x, i + 1, hi, hx, hj => by
    have h0 : x ∉ l := by simpa [at'] using hj 0 (by omega)
    have ih := @inF_some r x i (by simpa using hi) (by simpa [at'] using hx) (fun j hj' => by simpa [at'] using hj (j + 1) (by omega))
    unfold inF
    rw [if_neg h0, ih, if_neg (by omega)]
    push_cast; rfl
theorem inF_lt : ∀ {L : List (List Int)} {x : Int} , inF L x ≠ 0 → ∃ i : Nat, inF L x = (i : Int) + 1 ∧ i < L.length ∧ x ∈ at' L i
  | [], _, h => by simp [inF] at h
  | l :: r, x, h => by
    by_cases hx : x ∈ l
    · exact ⟨0, by simp [inF, hx], by simp, by simpa [at'] using hx⟩
    · unfold inF at h ⊢
      rw [if_neg hx] at h ⊢
      by_cases h2 : inF r x = 0
      · rw [if_pos h2] at h; exact absurd rfl h
      · rw [if_neg h2]
        obtain ⟨i, h3, h4, h5⟩ := inF_lt h2
        exact ⟨i + 1, by rw [h3]; push_cast; rfl, by simpa using h4, by simpa [at'] using h5⟩
theorem WF.inF {n : Nat} {L : List (List Int)} (h : WF n L) {i : Nat} {x : Int} (hi : i < L.length) (hx : x ∈ at' L i) : inF L x = (i : Int) + 1 :=
  inF_some hi hx fun j hj hxj => by have := h.one _ _ _ hx hxj; omega
theorem nxF_none : ∀ {L : List (List Int)} {x : Int}, (∀ l ∈ L, x ∉ l) → nxF L x = 0
  | [], _, _ => rfl
  | l :: r, x, h => by
    unfold nxF
    rw [if_neg (h l (List.mem_cons_self ..)), nxF_none fun l' hl' => h l' (List.mem_cons_of_mem _ hl')]
theorem nxF_some : ∀ {L : List (List Int)} {x : Int} {i : Nat}, i < L.length → x ∈ at' L i → (∀ j, j < i → x ∉ at' L j) → nxF L x = nxt (at' L i) x
  | l :: r, x, 0, _, hx, _ => by
    have : x ∈ l := by simpa [at'] using hx
    simp [nxF, this, at']
  | l :: r, x, i + 1, hi, hx, hj => by
    have h0 : x ∉ l := by simpa [at'] using hj 0 (by omega)
    have ih := @nxF_some r x i (by simpa using hi) (by simpa [at'] using hx) (fun j hj' => by simpa [at'] using hj (j + 1) (by omega))
    unfold nxF
    rw [if_neg h0, ih]
    simp [at']
theorem WF.nxF {n : Nat} {L : List (List Int)} (h : WF n L) {i : Nat} {x : Int} (hi : i < L.length) (hx : x ∈ at' L i) : nxF L x = nxt (at' L i) x :=
  nxF_some hi hx fun j hj hxj => by have := h.one _ _ _ hx hxj; omega

theorem nxt_none : ∀ {l : List Int} {x : Int}, x ∉ l → nxt l x = 0
  | [], _, _ => rfl
  | a :: l, x, h => by
    simp only [List.mem_cons, not_or] at h
    unfold nxt; rw [if_neg (fun e => h.1 e.symm), nxt_none h.2]
theorem nxt_app : ∀ {p s : List Int} {x : Int}, x ∉ p → nxt (p ++ x :: s) x = s.headD 0
  | [], s, x, _ => by simp [nxt]
  | a :: p, s, x, h => by
    simp only [List.mem_cons, not_or] at h
    rw [List.cons_append]; unfold nxt; rw [if_neg (fun e => h.1 e.symm), nxt_app h.2]
theorem nxt_app2 : ∀ {p s : List Int} {x : Int}, x ∉ p → nxt (p ++ s) x = nxt s x
  | [], s, x, _ => rfl
  | a :: p, s, x, h => by
    simp only [List.mem_cons, not_or] at h
    rw [List.cons_append]; conv => lhs; unfold nxt
    rw [if_neg (fun e => h.1 e.symm), nxt_app2 h.2]
theorem lst_app (p : List Int) (x : Int) : lst (p ++ [x]) = x := by simp [lst]
theorem lst_mem {l : List Int} (h : l ≠ []) : lst l ∈ l := by
  unfold lst
  rw [List.getLastD_eq_getLast?, List.getLast?_eq_some_getLast h]
  exact List.getLast_mem h
/-- One more behind all. -/
theorem nxt_push : ∀ {l : List Int} {g x : Int}, l.Nodup → g ∉ l → nxt (l ++ [g]) x = if l ≠ [] ∧ x = lst l then g else nxt l x
  | [], g, x, _, _ => by simp [nxt, lst]
  | [a], g, x, _, hg => by
    by_cases h : a = x
    · subst h; simp [nxt, lst]
    · simp [nxt, lst, h, Ne.symm h]
  | a :: b :: l, g, x, hn, hg => by
    have hn' := (List.nodup_cons.1 hn)
    have ih := @nxt_push (b :: l) g x hn'.2 (fun h => hg (List.mem_cons_of_mem _ h))
    have hl : lst (a :: b :: l) = lst (b :: l) := by simp [lst]
    rw [hl, List.cons_append]
    by_cases h : a = x
    · subst h
      have : ¬ (a = lst (b :: l)) := fun e => hn'.1 (e ▸ lst_mem (by simp))
      simp [nxt, this]
    · conv => lhs; unfold nxt
      rw [if_neg h, ih]
      by_cases h2 : x = lst (b :: l)
      · simp [h2]
      · simp only [h2, and_false, if_false, ne_eq]
        conv => rhs; unfold nxt
        rw [if_neg h]
/-- One less: behind p stood g, behind whom s. -/
theorem nxt_drop {p s : List Int} {g x : Int} (hn : (p ++ g :: s).Nodup) : nxt (p ++ s) x = if x = g then 0 else if p ≠ [] ∧ x = lst p then s.headD 0 else nxt (p ++ g :: s) x := by
  obtain ⟨h1, h2, h3⟩ := List.nodup_append.1 hn
  have hg := List.nodup_cons.1 h2
  have hgp : g ∉ p := fun h => h3 g h g (List.mem_cons_self ..) rfl
  have hps : ∀ y, y ∈ p → y ∉ s := fun y hy hys => h3 y hy y (List.mem_cons_of_mem _ hys) rfl
  by_cases hx : x = g
  · subst hx
    rw [if_pos rfl, nxt_none]
    simp only [List.mem_append, not_or]; exact ⟨hgp, hg.1⟩
  · rw [if_neg hx]
    by_cases hxp : x ∈ p
    · obtain ⟨q, r, rfl⟩ := List.append_of_mem hxp
      have hq : x ∉ q := by
        have := (List.nodup_append.1 h1).2.2
        exact fun h => this x h x (List.mem_cons_self ..) rfl
      have hr : x ∉ r := (List.nodup_cons.1 (List.nodup_append.1 h1).2.1).1
      rw [List.append_assoc, List.append_assoc, List.cons_append, List.cons_append, nxt_app hq, nxt_app hq]
      by_cases hre : r = []
      · subst hre
        rw [if_pos ⟨by simp, by simp [lst]⟩]; simp
      · have : ¬ (x = lst (q ++ x :: r)) := by
          intro e
          have h5 : lst (q ++ x :: r) = lst r := by
            unfold lst
            rw [List.getLastD_eq_getLast?, List.getLastD_eq_getLast?]
            simp [List.getLast?_append, List.getLast?_cons]
            cases h6 : r.getLast? with
            | none => simp at h6; exact absurd h6 hre
            | some y => simp
          rw [h5] at e
          exact hr (e ▸ lst_mem hre)
        rw [if_neg (fun h => this h.2)]
        cases r with
        | nil => exact absurd rfl hre
        | cons a r => rfl
    · have : ¬ (p ≠ [] ∧ x = lst p) := fun h => hxp (h.2 ▸ lst_mem h.1)
      rw [if_neg this, nxt_app2 hxp, nxt_app2 hxp]
      conv => rhs; unfold nxt
      rw [if_neg (fun e => hx e.symm)]
end Go.Proofs.YtbekdkhmpjamnaaT.FQ
