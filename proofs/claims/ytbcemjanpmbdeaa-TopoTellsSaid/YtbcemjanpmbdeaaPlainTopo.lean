/- Trees of vertices, plainly: what the program's functions of layer 1 come to. -/
import Derived.Test.YtbcemjanpmbdeaaQTopox4
namespace Go.Proofs.Ytbcemjanpmbdeaa.Plain
open Go Go.RowKit Go.Proofs.Ytbcemjanpmbdeaa.QTopo Go.Proofs.YtbcemjanpmbdeaaW.PrintWords Go.Proofs.YtbcemjanpmbdeaaW.PrintLast Go.Proofs.YtbcemjanpmbdeaaW.PrintMore
/-! ### rows of vertices, plainly -/
def P (T : List S29) (i : Nat) : Int := (T.getD i z29).f0
def L (T : List S29) (i : Nat) : Int := (T.getD i z29).f1
theorem rd_at (T : List S29) (i : Nat) : rd_T29 T (i : Int) = T.getD i z29 := by unfold rd_T29; rw [Int.toNat_natCast]
theorem rd_f0 (T : List S29) (i : Nat) : (rd_T29 T (i : Int)).f0 = P T i := by rw [rd_at]; rfl
theorem rd_f1 (T : List S29) (i : Nat) : (rd_T29 T (i : Int)).f1 = L T i := by rw [rd_at]; rfl
/-- those below n that are chosen -/
def sel (q : Nat → Bool) (n : Nat) : List Int := ((List.range n).filter q).map Int.ofNat
theorem sel_succ (q : Nat → Bool) (n : Nat) : sel q (n + 1) = if q n = true then sel q n ++ [(n : Int)] else sel q n := by
  unfold sel
  rw [List.range_succ, List.filter_append]
  by_cases h : q n = true <;> simp [h]
theorem sel_length (q : Nat → Bool) : ∀ n, (sel q n).length ≤ n
  | 0 => by simp [sel]
  | n + 1 => by
    have := sel_length q n
    rw [sel_succ]; split
    · rw [List.length_append, List.length_singleton]; omega
    · omega
theorem mem_sel (q : Nat → Bool) (n : Nat) (x : Int) : x ∈ sel q n ↔ 0 ≤ x ∧ x < n ∧ q x.toNat = true := by
  unfold sel
  simp only [List.mem_map, List.mem_filter, List.mem_range]
  constructor
  · rintro ⟨a, ⟨h1, h2⟩, rfl⟩
    exact ⟨Int.natCast_nonneg a, by simp only [Int.ofNat_eq_natCast]; omega, h2⟩
  · rintro ⟨h1, h2, h3⟩
    exact ⟨x.toNat, ⟨by omega, h3⟩, by simp only [Int.ofNat_eq_natCast]; omega⟩
def kid (T : List S29) (v : Int) (i : Nat) : Bool := decide (P T i = v)
def lev (T : List S29) (v : Int) (i : Nat) : Bool := decide (L T i = v)
def small (T : List S29) : Prop := T.length < 17592186044416
theorem wrap_nat (i : Nat) (h : i < 17592186044416) : wrap64 ((i : Int) + 1) = ((i + 1 : Nat) : Int) := by unfold wrap64; omega

theorem topo_Kids_l (T : List S29) (v : Int) (hT : T.length < 17592186044416) : ∀ (d k i : Nat), i ≤ T.length → T.length - i = d → d < k →
    topo_Kids.l0 k T v (sel (kid T v) i) (T.length : Int) (i : Int) = some (sel (kid T v) T.length) := by
  intro d
  induction d with
  | zero =>
    intro k i hi hd hk
    obtain ⟨k, rfl⟩ : ∃ m, k = m + 1 := ⟨k - 1, by omega⟩
    obtain rfl : i = T.length := by omega
    simp only [topo_Kids.l0]
    rw [if_neg (by omega)]
  | succ d ih =>
    intro k i hi hd hk
    obtain ⟨k, rfl⟩ : ∃ m, k = m + 1 := ⟨k - 1, by omega⟩
    have hl := sel_length (kid T v) i
    have ih' := ih k (i + 1) (by omega) (by omega) (by omega)
    rw [sel_succ] at ih'
    have hlt : (i : Int) < (T.length : Int) := by omega
    have hl2 : (sel (kid T v) i).length < 17592186044416 := by omega
    simp only [topo_Kids.l0]
    rw [if_pos hlt, if_pos (Int.natCast_nonneg i), if_pos hlt, wrap_nat i (by omega), rd_f0]
    by_cases h : P T i = v
    · rw [if_pos h, if_pos hl2]
      rw [if_pos (show kid T v i = true by unfold kid; simpa using h)] at ih'
      exact ih'
    · rw [if_neg h]
      rw [if_neg (show ¬ kid T v i = true by unfold kid; simpa using h)] at ih'
      exact ih'
theorem topo_Kids_f (k : Nat) (T : List S29) (v : Int) (hT : T.length < 17592186044416) (hk : T.length < k) : topo_Kids.f k T v = some (sel (kid T v) T.length) := by
  unfold topo_Kids.f
  exact topo_Kids_l T v hT T.length k 0 (Nat.zero_le _) (by omega) hk

theorem topo_level_l (T : List S29) (v : Int) (hT : T.length < 17592186044416) : ∀ (d k i : Nat), i ≤ T.length → T.length - i = d → d < k →
    topo_level.l0 k T v (sel (lev T v) i) (T.length : Int) (i : Int) = some (sel (lev T v) T.length) := by
  intro d
  induction d with
  | zero =>
    intro k i hi hd hk
    obtain ⟨k, rfl⟩ : ∃ m, k = m + 1 := ⟨k - 1, by omega⟩
    obtain rfl : i = T.length := by omega
    simp only [topo_level.l0]
    rw [if_neg (by omega)]
  | succ d ih =>
    intro k i hi hd hk
    obtain ⟨k, rfl⟩ : ∃ m, k = m + 1 := ⟨k - 1, by omega⟩
    have hl := sel_length (lev T v) i
    have ih' := ih k (i + 1) (by omega) (by omega) (by omega)
    rw [sel_succ] at ih'
    have hlt : (i : Int) < (T.length : Int) := by omega
    have hl2 : (sel (lev T v) i).length < 17592186044416 := by omega
    simp only [topo_level.l0]
    rw [if_pos hlt, if_pos (Int.natCast_nonneg i), if_pos hlt, wrap_nat i (by omega), rd_f1]
    by_cases h : L T i = v
    · rw [if_pos h, if_pos hl2]
      rw [if_pos (show lev T v i = true by unfold lev; simpa using h)] at ih'
      exact ih'
    · rw [if_neg h]
      rw [if_neg (show ¬ lev T v i = true by unfold lev; simpa using h)] at ih'
      exact ih'
theorem topo_level_f (k : Nat) (T : List S29) (v : Int) (hT : T.length < 17592186044416) (hk : T.length < k) : topo_level.f k T v = some (sel (lev T v) T.length) := by
  unfold topo_level.f
  exact topo_level_l T v hT T.length k 0 (Nat.zero_le _) (by omega) hk

theorem catafalqueref01_Kids_l (T : List S29) (v : Int) (hT : T.length < 17592186044416) : ∀ (d k i : Nat), i ≤ T.length → T.length - i = d → d < k →
    catafalqueref01_Kids.l0 k T v (sel (kid T v) i) (i : Int) = some (sel (kid T v) T.length) := by
  intro d
  induction d with
  | zero =>
    intro k i hi hd hk
    obtain ⟨k, rfl⟩ : ∃ m, k = m + 1 := ⟨k - 1, by omega⟩
    obtain rfl : i = T.length := by omega
    simp only [catafalqueref01_Kids.l0]
    rw [if_neg (by omega)]
  | succ d ih =>
    intro k i hi hd hk
    obtain ⟨k, rfl⟩ : ∃ m, k = m + 1 := ⟨k - 1, by omega⟩
    have hl := sel_length (kid T v) i
    have ih' := ih k (i + 1) (by omega) (by omega) (by omega)
    rw [sel_succ] at ih'
    have hlt : (i : Int) < (T.length : Int) := by omega
    have hl2 : (sel (kid T v) i).length < 17592186044416 := by omega
    simp only [catafalqueref01_Kids.l0]
    rw [if_pos hlt, if_pos (Int.natCast_nonneg i), wrap_nat i (by omega), rd_f0]
    by_cases h : P T i = v
    · rw [if_pos h, if_pos hl2]
      rw [if_pos (show kid T v i = true by unfold kid; simpa using h)] at ih'
      exact ih'
    · rw [if_neg h]
      rw [if_neg (show ¬ kid T v i = true by unfold kid; simpa using h)] at ih'
      exact ih'
theorem catafalqueref01_Kids_f (k : Nat) (T : List S29) (v : Int) (hT : T.length < 17592186044416) (hk : T.length < k) : catafalqueref01_Kids.f k T v = some (sel (kid T v) T.length) := by
  unfold catafalqueref01_Kids.f
  exact catafalqueref01_Kids_l T v hT T.length k 0 (Nat.zero_le _) (by omega) hk

theorem catafalqueref01_Of_l (T : List S29) (v : Int) (hT : T.length < 17592186044416) : ∀ (d k i : Nat), i ≤ T.length → T.length - i = d → d < k →
    catafalqueref01_Of.l0 k T v (sel (lev T v) i) (i : Int) = some (sel (lev T v) T.length) := by
  intro d
  induction d with
  | zero =>
    intro k i hi hd hk
    obtain ⟨k, rfl⟩ : ∃ m, k = m + 1 := ⟨k - 1, by omega⟩
    obtain rfl : i = T.length := by omega
    simp only [catafalqueref01_Of.l0]
    rw [if_neg (by omega)]
  | succ d ih =>
    intro k i hi hd hk
    obtain ⟨k, rfl⟩ : ∃ m, k = m + 1 := ⟨k - 1, by omega⟩
    have hl := sel_length (lev T v) i
    have ih' := ih k (i + 1) (by omega) (by omega) (by omega)
    rw [sel_succ] at ih'
    have hlt : (i : Int) < (T.length : Int) := by omega
    have hl2 : (sel (lev T v) i).length < 17592186044416 := by omega
    simp only [catafalqueref01_Of.l0]
    rw [if_pos hlt, if_pos (Int.natCast_nonneg i), wrap_nat i (by omega), rd_f1]
    by_cases h : L T i = v
    · rw [if_pos h, if_pos hl2]
      rw [if_pos (show lev T v i = true by unfold lev; simpa using h)] at ih'
      exact ih'
    · rw [if_neg h]
      rw [if_neg (show ¬ lev T v i = true by unfold lev; simpa using h)] at ih'
      exact ih'
theorem catafalqueref01_Of_f (k : Nat) (T : List S29) (v : Int) (hT : T.length < 17592186044416) (hk : T.length < k) : catafalqueref01_Of.f k T v = some (sel (lev T v) T.length) := by
  unfold catafalqueref01_Of.f
  exact catafalqueref01_Of_l T v hT T.length k 0 (Nat.zero_le _) (by omega) hk

theorem procs_f (k : Nat) (T : List S29) (hT : T.length < 17592186044416) (hk : T.length < k) : topo_Procs.f k T = some (sel (lev T 3) T.length) := by
  unfold topo_Procs.f; rw [topo_level_f k T 3 hT hk]; rfl
theorem nodes_f (k : Nat) (T : List S29) (hT : T.length < 17592186044416) (hk : T.length < k) : topo_Nodes.f k T = some (sel (lev T 1) T.length) := by
  unfold topo_Nodes.f; rw [topo_level_f k T 1 hT hk]; rfl
/-- a vertex stands rightly below the one above it -/
def good (T : List S29) (i : Nat) : Prop := (i = 0 ∧ P T 0 = -1 ∧ L T 0 = 0) ∨ (0 < i ∧ 0 ≤ P T i ∧ P T i < i ∧ L T i = wrap64 (L T (P T i).toNat + 1) ∧ L T i ≤ 3)
def leaf (T : List S29) (i : Nat) : Prop := L T i = 3 ↔ (sel (kid T i) T.length).length = 0
def cond (T : List S29) (i : Nat) : Prop := good T i ∧ leaf T i ∧ (sel (kid T i) T.length).length ≤ 8
/-- a tree that may be -/
def OKT (T : List S29) : Prop := 1 ≤ T.length ∧ T.length ≤ 64 ∧ (sel (lev T 3) T.length).length ≤ 32 ∧ ∀ i, i < T.length → cond T i
theorem below_yes (T : List S29) (i : Nat) (hi : i < T.length) (h : good T i) : topo_below.f T (i : Int) = some true := by
  unfold topo_below.f
  have h1 : (i : Int) < (T.length : Int) := by omega
  rw [if_pos (Int.natCast_nonneg i), if_pos h1, rd_f0, rd_f1]
  rcases h with ⟨rfl, h2, h3⟩ | ⟨h0, h2, h3, h4, h5⟩
  · rw [if_pos (by rfl), if_pos h2, h3]; rfl
  · have e : P T i = (((P T i).toNat : Nat) : Int) := by omega
    rw [if_neg (by omega), if_pos h2, if_pos h3, if_pos h2, if_pos (by omega)]
    have e2 : (rd_T29 T (P T i)).f1 = L T (P T i).toNat := by rw [e, rd_f1, Int.toNat_natCast]
    rw [e2, if_pos h4]; simp [h5]
theorem below_no (T : List S29) (i : Nat) (hi : i < T.length) (h : ¬ good T i) : topo_below.f T (i : Int) = some false := by
  unfold topo_below.f
  have h1 : (i : Int) < (T.length : Int) := by omega
  rw [if_pos (Int.natCast_nonneg i), if_pos h1, rd_f0, rd_f1]
  by_cases h0 : i = 0
  · subst h0
    rw [if_pos (by rfl)]
    by_cases h2 : P T 0 = -1
    · have h3 : ¬ L T 0 = 0 := fun h3 => h (Or.inl ⟨rfl, h2, h3⟩)
      rw [if_pos h2]; simp [h3]
    · rw [if_neg h2]
  · rw [if_neg (by omega)]
    by_cases h2 : P T i ≥ 0
    · rw [if_pos h2]
      by_cases h3 : P T i < i
      · have e : P T i = (((P T i).toNat : Nat) : Int) := by omega
        have e2 : (rd_T29 T (P T i)).f1 = L T (P T i).toNat := by rw [e, rd_f1, Int.toNat_natCast]
        rw [if_pos h3, if_pos h2, if_pos (by omega), e2]
        by_cases h4 : L T i = wrap64 (L T (P T i).toNat + 1)
        · have h5 : ¬ L T i ≤ 3 := fun h5 => h (Or.inr ⟨by omega, h2, h3, h4, h5⟩)
          rw [if_pos h4]; simp [h5]
        · rw [if_neg h4]
      · rw [if_neg h3]
    · rw [if_neg h2]
theorem check_l (T : List S29) (hT : T.length ≤ 64) : ∀ (d k i : Nat), i ≤ T.length → T.length - i = d → d + 100 < k →
    ((∀ j, i ≤ j → j < T.length → cond T j) → topo_Check.l0 k T (T.length : Int) (i : Int) = some 0) ∧ ((∃ j, i ≤ j ∧ j < T.length ∧ ¬ cond T j) → topo_Check.l0 k T (T.length : Int) (i : Int) = some 2) := by
  intro d
  induction d with
  | zero =>
    intro k i hi hd hk
    obtain ⟨k, rfl⟩ : ∃ m, k = m + 1 := ⟨k - 1, by omega⟩
    refine ⟨fun _ => ?_, fun ⟨j, h1, h2, _⟩ => by omega⟩
    simp only [topo_Check.l0]
    rw [if_neg (by omega)]
  | succ d ih =>
    intro k i hi hd hk
    obtain ⟨k, rfl⟩ : ∃ m, k = m + 1 := ⟨k - 1, by omega⟩
    obtain ⟨y, n⟩ := ih k (i + 1) (by omega) (by omega) (by omega)
    have hlt : i < T.length := by omega
    have hlt' : (i : Int) < (T.length : Int) := by omega
    have kf := topo_Kids_f k T (i : Int) (by omega) (by omega)
    have go : (good T i → leaf T i → (sel (kid T i) T.length).length ≤ 8 → topo_Check.l0 (k + 1) T (T.length : Int) (i : Int) = topo_Check.l0 k T (T.length : Int) ((i + 1 : Nat) : Int)) ∧ (¬ cond T i → topo_Check.l0 (k + 1) T (T.length : Int) (i : Int) = some 2) := by
      simp only [topo_Check.l0]
      rw [if_pos hlt', kf]
      simp only [Option.bind_some]
      rw [if_pos (Int.natCast_nonneg i), if_pos hlt', rd_f1, wrap_nat i (by omega)]
      by_cases hg : good T i
      · rw [below_yes T i hlt hg]
        simp only [Option.bind_some, if_true]
        by_cases hl : leaf T i
        · have e : ¬ ((L T i == 3) != (((sel (kid T i) T.length).length : Int) == 0)) = true := by
            unfold leaf at hl
            by_cases h3 : L T i = 3
            · have := hl.1 h3
              rw [beq_iff_eq.2 h3, beq_iff_eq.2 (show ((sel (kid T i) T.length).length : Int) = 0 by omega)]; decide
            · have h4 : ¬ (sel (kid T i) T.length).length = 0 := fun x => h3 (hl.2 x)
              rw [beq_eq_false_iff_ne.2 h3, beq_eq_false_iff_ne.2 (show ((sel (kid T i) T.length).length : Int) ≠ 0 by omega)]; decide
          rw [if_neg e]
          by_cases h8 : (sel (kid T i) T.length).length ≤ 8
          · rw [if_neg (by omega)]
            exact ⟨fun _ _ _ => rfl, fun hc => absurd ⟨hg, hl, h8⟩ hc⟩
          · rw [if_pos (by omega)]
            exact ⟨fun _ _ h => absurd h h8, fun _ => rfl⟩
        · have e : ((L T i == 3) != (((sel (kid T i) T.length).length : Int) == 0)) = true := by
            unfold leaf at hl
            by_cases h3 : L T i = 3
            · have h4 : ¬ (sel (kid T i) T.length).length = 0 := fun x => hl ⟨fun _ => x, fun _ => h3⟩
              rw [beq_iff_eq.2 h3, beq_eq_false_iff_ne.2 (show ((sel (kid T i) T.length).length : Int) ≠ 0 by omega)]; decide
            · have h4 : (sel (kid T i) T.length).length = 0 := by
                by_cases h4 : (sel (kid T i) T.length).length = 0
                · exact h4
                · exact absurd ⟨fun x => absurd x h3, fun x => absurd x h4⟩ hl
              rw [beq_eq_false_iff_ne.2 h3, beq_iff_eq.2 (show ((sel (kid T i) T.length).length : Int) = 0 by omega)]; decide
          rw [if_pos e]
          exact ⟨fun _ h _ => absurd h hl, fun _ => rfl⟩
      · rw [below_no T i hlt hg]
        simp only [Option.bind_some]
        exact ⟨fun h _ _ => absurd h hg, fun _ => rfl⟩
    refine ⟨fun h => ?_, fun ⟨j, h1, h2, h3⟩ => ?_⟩
    · obtain ⟨c1, c2, c3⟩ := h i (Nat.le_refl _) hlt
      rw [go.1 c1 c2 c3]
      exact y (fun j h1 h2 => h j (by omega) h2)
    · by_cases hc : cond T i
      · rw [go.1 hc.1 hc.2.1 hc.2.2]
        refine n ⟨j, ?_, h2, h3⟩
        by_cases e : j = i
        · subst e; exact absurd hc h3
        · omega
      · exact go.2 hc
theorem check_yes (k : Nat) (T : List S29) (h : OKT T) (hk : 300 < k) : topo_Check.f k T = some 0 := by
  obtain ⟨h1, h2, h3, h4⟩ := h
  obtain ⟨k, rfl⟩ : ∃ m, k = m + 1 := ⟨k - 1, by omega⟩
  unfold topo_Check.f
  rw [if_neg (by omega), if_neg (by omega), procs_f _ T (by omega) (by omega)]
  simp only [Option.bind_some, topo_Check.j0]
  rw [if_neg (by simp; omega)]
  exact (check_l T h2 T.length k 0 (Nat.zero_le _) (by omega) (by omega)).1 (fun j _ hj => h4 j hj)
theorem check_no (k : Nat) (T : List S29) (h : ¬ OKT T) (hk : 300 < k) : topo_Check.f k T = some 2 := by
  obtain ⟨k, rfl⟩ : ∃ m, k = m + 1 := ⟨k - 1, by omega⟩
  unfold topo_Check.f
  by_cases h1 : (T.length : Int) < 1
  · rw [if_pos h1]; simp [topo_Check.j0]
  · rw [if_neg h1]
    by_cases h2 : (T.length : Int) > 64
    · rw [if_pos h2]; simp [topo_Check.j0]
    · rw [if_neg h2, procs_f _ T (by omega) (by omega)]
      simp only [Option.bind_some, topo_Check.j0]
      by_cases h3 : (sel (lev T 3) T.length).length ≤ 32
      · rw [if_neg (by simp; omega)]
        refine (check_l T (by omega) T.length k 0 (Nat.zero_le _) (by omega) (by omega)).2 ?_
        apply Classical.byContradiction
        intro hn
        refine h ⟨by omega, by omega, h3, fun i hi => ?_⟩
        apply Classical.byContradiction
        intro hc
        exact hn ⟨i, Nat.zero_le _, hi, hc⟩
      · rw [if_pos (by simp; omega)]
theorem shown_f (k : Nat) (hk : 400 ≤ k) : catafalquelaw01_shown.f k = some true :=
  at_rounds catafalquelaw01_shown.mono hk (by decide +kernel)
/-! ### what a tree that may be is -/
theorem level_rangeG (T : List S29) (h : ∀ i, i < T.length → good T i) : ∀ i, i < T.length → 0 ≤ L T i ∧ L T i ≤ 3 := by
  intro i
  induction i using Nat.strongRecOn with
  | ind i ih =>
    intro hi
    rcases h i hi with ⟨rfl, _, h3⟩ | ⟨h0, h2, h3, h4, h5⟩
    · rw [h3]; omega
    · have := ih (P T i).toNat (by omega) (by omega)
      refine ⟨?_, h5⟩
      rw [h4]; unfold wrap64; omega
theorem level_upG (T : List S29) (h : ∀ i, i < T.length → good T i) (i : Nat) (hi : i < T.length) (h0 : 0 < i) : 0 ≤ P T i ∧ P T i < i ∧ L T i = L T (P T i).toNat + 1 := by
  rcases h i hi with ⟨rfl, _, _⟩ | ⟨_, h2, h3, h4, h5⟩
  · omega
  · have := level_rangeG T h (P T i).toNat (by omega)
    refine ⟨h2, h3, ?_⟩
    rw [h4]; unfold wrap64; omega
theorem level_range (T : List S29) (h : OKT T) : ∀ i, i < T.length → 0 ≤ L T i ∧ L T i ≤ 3 := level_rangeG T fun i hi => (h.2.2.2 i hi).1
theorem level_up (T : List S29) (h : OKT T) (i : Nat) (hi : i < T.length) (h0 : 0 < i) : 0 ≤ P T i ∧ P T i < i ∧ L T i = L T (P T i).toNat + 1 := level_upG T (fun i hi => (h.2.2.2 i hi).1) i hi h0
theorem root (T : List S29) (h : OKT T) : P T 0 = -1 ∧ L T 0 = 0 := by
  rcases (h.2.2.2 0 h.1).1 with ⟨_, h2, h3⟩ | ⟨h0, _⟩
  · exact ⟨h2, h3⟩
  · omega
end Go.Proofs.Ytbcemjanpmbdeaa.Plain
