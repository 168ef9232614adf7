/- The plain law BoxPlays. -/
import Derived.Test.YtibkpacjijbblaaQPlaysx5
import Derived.Test.YtibkpacjijbblaaPlainPlays
namespace Go.Proofs.Ytibkpacjijbblaa.Pure
open Go Go.RowKit Go.Proofs.Ytibkpacjijbblaa.QPlays Go.Proofs.YtibkpacjijbblaaW.PrintWords Go.Proofs.YtibkpacjijbblaaW.PrintLast Go.Proofs.YtibkpacjijbblaaW.PrintMore
/-- the state of play: what is sent, who waits, how much is got, and the mailbox -/
structure Play (R : Int) (i : Nat) (sent wait : List Int) (got : Nat) (M : List Int) (S : List S65) : Prop where
  r0 : 0 ≤ R
  r8 : R ≤ 8
  row : sent.drop got = M ++ S.map (·.f1)
  gl : got ≤ sent.length
  room : (M.length : Int) ≤ R
  full : S ≠ [] → (M.length : Int) = R
  idle : wait ≠ [] → M = [] ∧ S = []
  pos : ∀ x ∈ wait ++ S.map (·.f0), 0 < x
  fresh : ∀ x ∈ wait ++ S.map (·.f0), x ≤ i
  nd : (wait ++ S.map (·.f0)).Nodup
  ls : sent.length ≤ i
  lw : wait.length ≤ i
  lS : S.length ≤ i
theorem play_len {R i sent wait got M S} (h : Play R i sent wait got M S) : sent.length - got = M.length + S.length := by
  have := congrArg List.length h.row
  rw [List.length_drop, List.length_append, List.length_map] at this
  exact this
set_option maxRecDepth 100000 in
theorem play_j4 (l : List Int) (R : Int) (i : Nat) (sent wait : List Int) (got : Nat) (M : List Int) (S : List S65) (h : Play R (i + 1) sent wait got M S) (hi : i < 300) (k : Nat) (hk : 3500 < k) (next : catafalquelaw11_BoxPlays.l0 k l true sent wait (got : Int) ((i + 1 : Nat) : Int) R M S wait = some true) :
    catafalquelaw11_BoxPlays.j4 (k + 1) l true sent wait (got : Int) (i : Int) R M S wait = some true := by
  have hl := play_len h
  have g := h.gl
  have l1 := h.ls
  have l2 := h.lw
  have l3 := h.lS
  have ew : (M.length : Int) + (S.length : Int) = (sent.length : Int) - (got : Int) := by omega
  have hw : wrap64 ((M.length : Int) + (S.length : Int)) = wrap64 ((sent.length : Int) - (got : Int)) := by rw [ew]
  have my := may_yes k R M S wait (by omega) (by omega) (by omega) h.r0 h.r8 h.room h.full h.idle h.pos h.nd
  have hi1 := ints_same k wait (by omega) (by omega)
  have hi2 := wrap_nat i (by omega)
  clear hl
  rw [catafalquelaw11_BoxPlays.j4, my, Option.bind_some, if_pos rfl, if_pos hw, hi1, Option.bind_some, if_pos rfl, hi2]
  exact next
set_option maxRecDepth 100000 in
theorem play_l0 (l : List Int) : ∀ (d i k : Nat) (R : Int) (sent wait : List Int) (got : Nat) (M : List Int) (S : List S65), Play R i sent wait got M S → i ≤ 300 → 300 - i = d → d * 10 + 4000 < k →
    catafalquelaw11_BoxPlays.l0 k l true sent wait (got : Int) (i : Int) R M S wait = some true := by
  intro d
  induction d with
  | zero =>
    intro i k R sent wait got M S h hi hd hk
    obtain ⟨k, rfl⟩ : ∃ m, k = m + 2 := ⟨k - 2, by omega⟩
    have q : decide ((i : Int) < 300) = false := decide_eq_false (by omega)
    have e : ∀ b, b = false → catafalquelaw11_BoxPlays.j1 (k + 1) l true sent wait (got : Int) (i : Int) b R M S wait = some true := by
      intro b hb; subst hb; rw [catafalquelaw11_BoxPlays.j1, if_neg (by decide)]
    rw [catafalquelaw11_BoxPlays.l0]
    by_cases c : (i : Int) < (l.length : Int)
    · rw [if_pos c]; exact e _ q
    · rw [if_neg c]; exact e _ rfl
  | succ d ih =>
    intro i k R sent wait got M S h hi hd hk
    obtain ⟨k, rfl⟩ : ∃ m, k = m + 4 := ⟨k - 4, by omega⟩
    have q : decide ((i : Int) < 300) = true := decide_eq_true (by omega)
    have g := h.gl
    have l1 := h.ls
    have l2 := h.lw
    have l3 := h.lS
    have hlen := play_len h
    rw [catafalquelaw11_BoxPlays.l0]
    by_cases c : (i : Int) < (l.length : Int)
    · rw [if_pos c, q, catafalquelaw11_BoxPlays.j1, if_pos rfl, if_pos (Int.natCast_nonneg i), if_pos c]
      have hm : M.length ≤ 8 := by have := h.room; have := h.r8; omega
      by_cases c0 : rd l (i : Int) = 0
      · rw [if_pos c0, wrap_nat i (by omega)]
        rcases S with _ | ⟨s, S⟩
        · rcases M with _ | ⟨m, M⟩
          · -- nobody sent: one waits
            have eg : got = sent.length := by simp at hlen; omega
            rw [recv_none (k + 1) R wait _ (by omega)]
            simp only [Option.bind_some]
            have q2 : decide ((got : Int) < (sent.length : Int)) = false := decide_eq_false (by omega)
            rw [q2, if_neg (by decide), if_neg (by decide), catafalquelaw11_BoxPlays.j2, if_neg (by decide), if_neg (by decide), if_pos (by omega), wrap_nat i (by omega)]
            have h' : Play R (i + 1) sent (wait ++ [((i + 1 : Nat) : Int)]) got [] [] := {
              r0 := h.r0, r8 := h.r8, row := h.row, gl := h.gl, room := h.room, full := fun x => absurd rfl x, idle := fun _ => ⟨rfl, rfl⟩
              pos := fun x hx => by
                simp only [List.map_nil, List.append_nil, List.mem_append, List.mem_singleton] at hx
                rcases hx with hx | hx
                · exact h.pos x (by simpa using hx)
                · omega
              fresh := fun x hx => by
                simp only [List.map_nil, List.append_nil, List.mem_append, List.mem_singleton] at hx
                rcases hx with hx | hx
                · have := h.fresh x (by simpa using hx); omega
                · omega
              nd := by
                simp only [List.map_nil, List.append_nil]
                have n := h.nd
                simp only [List.map_nil, List.append_nil] at n
                refine List.nodup_append.2 ⟨n, by simp, fun a ha b hb => ?_⟩
                simp only [List.mem_singleton] at hb
                have := h.fresh a (by simpa using ha); omega
              ls := by omega, lw := by rw [List.length_append]; simp; omega, lS := by simp }
            exact play_j4 l R i sent _ got [] [] h' (by omega) k (by omega) (ih (i + 1) k R sent _ got [] [] h' (by omega) (by omega) (by omega))
          · -- the first one is received
            have hg : got < sent.length := by simp at hlen; omega
            have hwn : wait = [] := by
              by_cases e : wait = []
              · exact e
              · have := (h.idle e).1; simp at this
            subst hwn
            have hr := h.row
            rw [List.drop_eq_getElem_cons hg] at hr
            simp only [List.map_nil, List.append_nil] at hr
            obtain ⟨hr1, hr2⟩ := List.cons.inj hr
            have er : rd sent (got : Int) = m := by rw [rd_nat, List.getD_eq_getElem?_getD, List.getElem?_eq_getElem hg]; exact hr1
            have q3 : (got : Int) < (sent.length : Int) := by omega
            rw [recv_msg (k + 1) R m M [] _ (by simp at hm; omega)]
            simp only [Option.bind_some]
            rw [decide_eq_true q3, if_neg (by decide), if_pos trivial, if_pos (Int.natCast_nonneg got), if_pos q3, er, show (m != m) = false from by simp, catafalquelaw11_BoxPlays.j2, if_neg (by decide), if_pos rfl, wrap_nat got (by omega)]
            have h' : Play R (i + 1) sent [] (got + 1) M [] := {
              r0 := h.r0, r8 := h.r8, row := by simpa using hr2, gl := hg, room := by have := h.room; simp at this; omega, full := fun x => absurd rfl x, idle := fun x => absurd rfl x
              pos := by simp, fresh := by simp, nd := by simp, ls := by omega, lw := by simp, lS := by simp }
            exact play_j4 l R i sent [] (got + 1) M [] h' (by omega) k (by omega) (ih (i + 1) k R sent [] (got + 1) M [] h' (by omega) (by omega) (by omega))
        · -- who waits to send comes in
          have hg : got < sent.length := by simp at hlen; omega
          have hwn : wait = [] := by
            by_cases e : wait = []
            · exact e
            · have := (h.idle e).2; simp at this
          subst hwn
          have hr := h.row
          rw [List.drop_eq_getElem_cons hg] at hr
          obtain ⟨m, M', e⟩ : ∃ m M', M ++ [s.f1] = m :: M' := by
            rcases M with _ | ⟨m, M⟩
            · exact ⟨_, _, rfl⟩
            · exact ⟨m, M ++ [s.f1], rfl⟩
          have e2 : M ++ (s :: S).map (·.f1) = m :: (M' ++ S.map (·.f1)) := by
            rw [List.map_cons, show M ++ s.f1 :: S.map (·.f1) = (M ++ [s.f1]) ++ S.map (·.f1) by simp, e]; rfl
          rw [e2] at hr
          obtain ⟨hr1, hr2⟩ := List.cons.inj hr
          have er : rd sent (got : Int) = m := by rw [rd_nat, List.getD_eq_getElem?_getD, List.getElem?_eq_getElem hg]; exact hr1
          have q3 : (got : Int) < (sent.length : Int) := by omega
          have eM : M'.length = M.length := by have := congrArg List.length e; simp at this; omega
          have hf := h.full (by simp)
          rw [recv_send (k + 1) R M s S [] _ m M' e (by omega) (by simp at l3; omega)]
          simp only [Option.bind_some]
          rw [decide_eq_true q3, if_neg (by decide), if_pos trivial, if_pos (Int.natCast_nonneg got), if_pos q3, er, show (m != m) = false from by simp, catafalquelaw11_BoxPlays.j2, if_neg (by decide), if_pos rfl, wrap_nat got (by omega)]
          have n := h.nd
          simp only [List.nil_append, List.map_cons, List.nodup_cons] at n
          have h' : Play R (i + 1) sent [] (got + 1) M' S := {
            r0 := h.r0, r8 := h.r8, row := hr2, gl := hg, room := by omega, full := fun _ => by omega, idle := fun x => absurd rfl x
            pos := fun x hx => h.pos x (by simp only [List.nil_append, List.map_cons, List.mem_cons] at hx ⊢; exact Or.inr hx)
            fresh := fun x hx => by have := h.fresh x (by simp only [List.nil_append, List.map_cons, List.mem_cons] at hx ⊢; exact Or.inr hx); omega
            nd := by simpa using n.2, ls := by omega, lw := by simp, lS := by simp at l3; omega }
          exact play_j4 l R i sent [] (got + 1) M' S h' (by omega) k (by omega) (ih (i + 1) k R sent [] (got + 1) M' S h' (by omega) (by omega) (by omega))
      · rw [if_neg c0, wrap_nat i (by omega)]
        rcases wait with _ | ⟨w, wait⟩
        · by_cases cr : (M.length : Int) < R
          · -- there is room
            have hS : S = [] := by
              by_cases e : S = []
              · exact e
              · have := h.full e; omega
            subst hS
            rw [send_room R M [] _ _ cr (by omega)]
            simp only [Option.bind_some]
            rw [if_neg (by decide), if_pos trivial, catafalquelaw11_BoxPlays.j3, if_neg (by decide), if_pos rfl, if_pos (Int.natCast_nonneg i), if_pos c, if_pos (by omega)]
            have h' : Play R (i + 1) (sent ++ [rd l (i : Int)]) [] got (M ++ [rd l (i : Int)]) [] := {
              r0 := h.r0, r8 := h.r8
              row := by
                have := h.row
                simp only [List.map_nil, List.append_nil] at this ⊢
                rw [List.drop_append_of_le_length h.gl, this]
              gl := by rw [List.length_append]; simp; omega, room := by rw [List.length_append]; simp; omega, full := fun x => absurd rfl x, idle := fun x => absurd rfl x
              pos := by simp, fresh := by simp, nd := by simp, ls := by rw [List.length_append]; simp; omega, lw := by simp, lS := by simp }
            exact play_j4 l R i _ [] got _ [] h' (by omega) k (by omega) (ih (i + 1) k R _ [] got _ [] h' (by omega) (by omega) (by omega))
          · -- who sends waits
            rw [send_full R M S _ _ cr (by omega)]
            simp only [Option.bind_some]
            rw [if_neg (by decide), if_pos trivial, catafalquelaw11_BoxPlays.j3, if_neg (by decide), if_pos rfl, if_pos (Int.natCast_nonneg i), if_pos c, if_pos (by omega)]
            have n := h.nd
            simp only [List.nil_append] at n
            have h' : Play R (i + 1) (sent ++ [rd l (i : Int)]) [] got M (S ++ [⟨((i + 1 : Nat) : Int), rd l (i : Int)⟩]) := {
              r0 := h.r0, r8 := h.r8
              row := by
                have := h.row
                rw [List.drop_append_of_le_length h.gl, this, List.map_append, List.append_assoc]; rfl
              gl := by rw [List.length_append]; simp; omega, room := h.room, full := fun _ => by have := h.room; omega, idle := fun x => absurd rfl x
              pos := fun x hx => by
                simp only [List.nil_append, List.map_append, List.map_cons, List.map_nil, List.mem_append, List.mem_singleton] at hx
                rcases hx with hx | hx
                · exact h.pos x (by simpa using hx)
                · omega
              fresh := fun x hx => by
                simp only [List.nil_append, List.map_append, List.map_cons, List.map_nil, List.mem_append, List.mem_singleton] at hx
                rcases hx with hx | hx
                · have := h.fresh x (by simpa using hx); omega
                · omega
              nd := by
                simp only [List.nil_append, List.map_append, List.map_cons, List.map_nil]
                refine List.nodup_append.2 ⟨n, by simp, fun a ha b hb => ?_⟩
                simp only [List.mem_singleton] at hb
                have := h.fresh a (by simpa using ha); omega
              ls := by rw [List.length_append]; simp; omega, lw := by simp, lS := by rw [List.length_append]; simp; omega }
            exact play_j4 l R i _ [] got M _ h' (by omega) k (by omega) (ih (i + 1) k R _ [] got M _ h' (by omega) (by omega) (by omega))
        · -- somebody waits for it
          obtain ⟨hM, hS⟩ := h.idle (by simp)
          subst hM hS
          have hp := h.pos w (by simp)
          rw [send_wait R [] [] w wait _ _ (by simp at l2; omega)]
          simp only [Option.bind_some]
          have q4 : (w != 0) = true := by rw [bne_iff_ne]; omega
          have q5 : decide (((w :: wait).length : Int) > 0) = true := decide_eq_true (by rw [List.length_cons]; omega)
          have er : rd (w :: wait) 0 = w := rfl
          rw [q4, q5, if_neg (by decide), if_neg (by omega), if_pos (by rw [List.length_cons]; omega), er, show (w != w) = false from by simp, catafalquelaw11_BoxPlays.j3, if_neg (by decide), if_neg (by omega), if_pos (by rw [List.length_cons]; omega)]
          have n := h.nd
          simp only [List.map_nil, List.append_nil, List.nodup_cons] at n
          have h' : Play R (i + 1) sent wait got [] [] := {
            r0 := h.r0, r8 := h.r8, row := h.row, gl := h.gl, room := h.room, full := fun x => absurd rfl x, idle := fun _ => ⟨rfl, rfl⟩
            pos := fun x hx => h.pos x (by simp only [List.map_nil, List.append_nil, List.mem_cons] at hx ⊢; exact Or.inr hx)
            fresh := fun x hx => by have := h.fresh x (by simp only [List.map_nil, List.append_nil, List.mem_cons] at hx ⊢; exact Or.inr hx); omega
            nd := by simpa using n.2, ls := by omega, lw := by simp at l2; omega, lS := by simp }
          exact play_j4 l R i sent wait got [] [] h' (by omega) k (by omega) (ih (i + 1) k R sent wait got [] [] h' (by omega) (by omega) (by omega))
    · rw [if_neg c, catafalquelaw11_BoxPlays.j1, if_neg (by decide)]
theorem u8_range {a : Int} (h : (Lit.int .u8 a).wf = true) : 0 ≤ a ∧ a ≤ 255 := by
  simp only [Lit.wf, Bool.and_eq_true, decide_eq_true_eq] at h
  have e1 : IntKind.u8.min = 0 := by decide
  have e2 : IntKind.u8.max = 255 := by decide
  rw [e1, e2] at h; exact h
set_option maxRecDepth 100000 in
theorem BoxPlays : catafalquelaw11_BoxPlays.Pure := by
  intro a l ha _ _ _
  obtain ⟨h0, h1⟩ := u8_range ha
  have ht : Int.tmod a 9 = ((a.toNat % 9 : Nat) : Int) := by
    have : a = ((a.toNat : Nat) : Int) := by omega
    rw [this]; rfl
  have hw : wrap64 (Int.tmod a 9) = ((a.toNat % 9 : Nat) : Int) := by rw [ht]; unfold wrap64; omega
  refine ⟨9000, ?_⟩
  unfold catafalquelaw11_BoxPlays.f
  rw [shown_f 9000 (by omega), hw]
  simp only [Option.bind_some]
  have hp : Play ((a.toNat % 9 : Nat) : Int) 0 [] [] 0 [] [] := {
    r0 := Int.natCast_nonneg _, r8 := by omega, row := rfl, gl := Nat.le_refl _, room := by rw [List.length_nil]; exact Int.natCast_nonneg _, full := fun x => absurd rfl x, idle := fun x => absurd rfl x
    pos := by simp, fresh := by simp, nd := by simp, ls := Nat.le_refl _, lw := Nat.le_refl _, lS := Nat.le_refl _ }
  have p := play_l0 l 300 0 9000 _ [] [] 0 [] [] hp (by omega) (by omega) (by omega)
  rw [Int.natCast_zero] at p
  exact p
end Go.Proofs.Ytibkpacjijbblaa.Pure
