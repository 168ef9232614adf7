/- Walks over the program's functions, on values without memory, and what they come to. No condition. -/
import Derived.Test.YtaaenepdhjdmlaaE6
import Derived.WalkKit
import Derived.BigCall
set_option linter.unusedVariables false
set_option linter.unusedSimpArgs false
namespace Go.Proofs.YtaaenepdhjdmlaaT
open Go Go.Proofs Go.RowKit Go.Proofs.YtaaenepdhjdmlaaT.Ty
set_option linter.unusedVariables false
theorem Keeps_of {w w' : World} {S : Nat → Prop} (h : Below w.heap.size w w') : Keeps S w w' := ⟨h.os, h.tape, h.output, h.size, fun k hk _ => h.block k hk⟩
/-- By value: from a walk of the kit's to a call's. -/
theorem Ret_str {g : FuncId} {args : List AV} {s : ByteArray} (he : Enters Try.prog g)
    (h : ∀ (w : World) (Im : Nat → Prop) (M : Nat → Option Value) (vs : Array Value), (∀ b, Im b → b < w.heap.size) → vs.size = args.length → (∀ (i : Nat) v x, vs[i]? = some v → args[i]? = some x → R Im w M v x) →
      Calls Try.prog g vs w fun e w' => e = .returned (.string s) ∧ Below w.heap.size w w') : Ret Try.prog g args (.str s) := by
  refine ⟨he, fun w Im M vs hl hs hr ho hM hap hsp => (h w Im M vs hl hs hr).mono ?_⟩
  rintro e w' ⟨rfl, hb⟩
  refine ⟨_, Im, fun _ => none, rfl, Keeps_of hb, fun _ h => h, fun _ h => .inl h, fun b hb' => Nat.lt_of_lt_of_le (hl b hb') hb.size, .str s, fun i o ho => by simp at ho, fun _ _ => rfl, fun i j b _ h => ?_, fun i b h => ?_, fun i hi => absurd hi (by simp)⟩
  · unfold ownB at h; simp at h
  · unfold ownB at h; simp at h
/-- And back. -/
theorem Calls_str {g : FuncId} {args : List AV} {s : ByteArray} (h : Ret Try.prog g args (.str s)) {w : World} {Im : Nat → Prop} {vs : Array Value} (hl : ∀ b, Im b → b < w.heap.size) (hs : vs.size = args.length) (hr : ∀ (i : Nat) v x, vs[i]? = some v → args[i]? = some x → R Im w (fun _ => none) v x) :
    Calls Try.prog g vs w fun e w' => e = .returned (.string s) ∧ Below w.heap.size w w' := by
  refine (h.2 w Im (fun _ => none) vs hl hs hr (fun i o ho => by simp at ho) (fun _ _ => rfl) (fun i j b _ h => by unfold ownB at h; simp at h) (fun i b h => by unfold ownB at h; simp at h)).mono ?_
  rintro e w' ⟨v, I', M', rfl, hk, _, _, _, hR, _⟩
  exact ⟨by rw [R_str hR], hk.below (fun b h => by obtain ⟨i, hi⟩ := h; unfold ownB at hi; simp at hi)⟩
/-- The kids of a vertex, as a row of the call's own. -/
theorem kids_calls {f : Bool} {t : List (Int × Int)} {v : Int} (hl : t.length ≤ 1000000) {w : World} {Im : Nat → Prop} {vt : Value} (hI : ∀ b, Im b → b < w.heap.size) (hr : R Im w (fun _ => none) vt (.sl f (vts t))) :
    Calls Try.prog 26 #[vt, .int .i64 v] w fun e w' => ∃ o cap, e = .returned (.slice o (kidsL t v).length cap) ∧ Below w.heap.size w w' ∧ (0 < (kidsL t v).length → ∃ g cur, o = some ⟨g, 0, none⟩ ∧ w.heap.size ≤ g ∧ w'.heap[g]? = some (.cells cur 3 (0, 0)) ∧ ∀ (i : Nat) (h : i < (kidsL t v).length), cur[i]? = some (.int .i64 (kidsL t v)[i])) := by
  refine ((kidsA_spec f t v hl).2 w Im (fun _ => none) _ hI rfl (fun i u x hu hx => ?_) (fun i o ho => by simp at ho) (fun _ _ => rfl) (fun i j b _ h => by unfold ownB at h; simp at h) (fun i b h => by unfold ownB at h; simp at h)).mono ?_
  · match i with
    | 0 => simp at hu hx; subst hu hx; exact hr
    | 1 => simp at hu hx; subst hu hx; exact .int _ _
    | n + 2 => simp at hx
  · rintro e w' ⟨u, I', M', rfl, hk, _, _, _, hR, hO, _, _, hsp, _⟩
    obtain ⟨u', xs, hm, hown, hch⟩ := hO 0 _ rfl
    obtain ⟨a, n, c, rfl, hm2⟩ := R_bsl hR
    rw [hm] at hm2
    cases hm2
    have hB : Below w.heap.size w w' := hk.below (fun b h => by obtain ⟨i, hi⟩ := h; unfold ownB at hi; simp at hi)
    have hkl : (ints (kidsL t v)).length = (kidsL t v).length := by simp [ints]
    rw [hkl] at hown
    rcases hown.2 with ⟨h1, h2⟩ | ⟨g, cap, cur, h1, _, h3, h4, h5, h6, h7⟩
    · cases h1
      exact ⟨none, 0, by rw [h2], hB, fun h => by omega⟩
    · cases h1
      have hge := (hsp 0 g (by rw [ownB_arr (e := 3) (sz := 1) (es := ints (kidsL t v)) rfl hm]; rfl)).2.1
      refine ⟨_, _, rfl, hB, fun hp => ⟨g, cur, rfl, ?_, h3, fun i hi => ?_⟩⟩
      · rcases hge with ⟨i, hi⟩ | hge
        · unfold ownB at hi; simp at hi
        · exact hge
      · have hx : (ints (kidsL t v))[i]? = some [.int .i64 (kidsL t v)[i]] := by simp [ints, hi]
        obtain ⟨z, hz, hzr⟩ := hch.2.2 i _ 0 (.int .i64 (kidsL t v)[i]) hx rfl
        rw [R_int hzr] at hz
        rw [← h7] at hz
        rw [Nat.mul_one, Nat.mul_one, Nat.add_zero, List.getElem?_take_of_lt (by omega), Array.getElem?_toList] at hz
        exact hz
end Go.Proofs.YtaaenepdhjdmlaaT

namespace Go.Proofs.YtaaenepdhjdmlaaT
open Go Go.Proofs Go.RowKit Go.Proofs.YtaaenepdhjdmlaaT.Ty
set_option linter.unusedVariables false
set_option maxHeartbeats 4000000
set_option maxRecDepth 1000000
theorem builder_keeps {T e : TypeId} {B b : Nat} {bs : List Value} {w w' : World} (h : Lib.IsBuilderF T e B b bs w) (hk : Below w.heap.size w w') : Lib.IsBuilderF T e B b bs w' := by
  have key : ∀ p, Lib.BuilderAtF T e B b p bs w → Lib.BuilderAtF T e B b p bs w' := by
    rintro p ⟨hB, v, hb, ho, hn⟩
    refine ⟨hB, v, ?_, ⟨ho.1, ?_⟩, hn⟩
    · rw [hk.block b (Array.getElem?_eq_some_iff.1 hb).1]; exact hb
    · rcases ho.2 with h1 | ⟨g, cap, cur, fz, h1, h2, h3, h4⟩
      · exact .inl h1
      · exact .inr ⟨g, cap, cur, fz, h1, h2, by rw [hk.block g (Array.getElem?_eq_some_iff.1 h3).1]; exact h3, h4⟩
  exact h.elim (fun x => .inl (key _ x)) (fun x => .inr (key _ x))
def let8 (l : Int) : UInt8 := if l = 0 then 109 else if l = 1 then 110 else if l = 2 then 99 else 112
def ofT (t : List (Int × Int)) (v : Nat) (F : Int → List UInt8) : List UInt8 := let8 (lev t v) :: (if lev t v = 3 then [] else 40 :: ((kidsL t v).flatMap F ++ [41]))
theorem flat_len {K : List Int} (F : Int → List UInt8) (h : ∀ k ∈ K, (F k).length ≤ 1000000) (m : Nat) : ((K.take m).flatMap F).length ≤ K.length * 1000000 := by
  induction K generalizing m with
  | nil => simp
  | cons k K ih =>
    cases m with
    | zero => simp
    | succ m =>
      have h1 := h k (by simp)
      have h2 := ih (fun x hx => h x (by simp [hx])) m
      simp only [List.take_succ_cons, List.flatMap_cons, List.length_append, List.length_cons]
      omega
theorem of_walk (a : Option Addr) (n c : Nat) (ad : Addr) (l : Int) (v : Nat) (K : List Int) (F : Int → List UInt8) (w : World) (hv : v < n) (ha : a = some ad) (hb : ad.block < w.heap.size) (hl : 0 ≤ l ∧ l ≤ 3)
    (hc : ∀ w1 : World, w1.heap[ad.block]? = w.heap[ad.block]? → w1.cell? { block := (ad.add (v * 2)).block, off := (ad.add (v * 2)).off + 1 } = some (.int .i64 l))
    (hK : l ≠ 3 → ∀ w1 : World, Below w.heap.size w w1 → Calls Try.prog 26 #[.slice a n c, .int .i64 v] w1 fun e w' => ∃ o cap, e = .returned (.slice o K.length cap) ∧ Below w1.heap.size w1 w' ∧ (0 < K.length → ∃ g cur, o = some ⟨g, 0, none⟩ ∧ w1.heap.size ≤ g ∧ w'.heap[g]? = some (.cells cur 3 (0, 0)) ∧ ∀ (i : Nat) (h : i < K.length), cur[i]? = some (.int .i64 K[i])))
    (hF : l ≠ 3 → ∀ k ∈ K, (F k).length ≤ 1000000 ∧ ∀ w1 : World, Below w.heap.size w w1 → Calls Try.prog 21 #[.slice a n c, .int .i64 k] w1 fun e w' => e = .returned (.string ⟨(F k).toArray⟩) ∧ Below w1.heap.size w1 w') (hKl : K.length ≤ 1000) :
    Calls Try.prog 21 #[.slice a n c, .int .i64 v] w fun e w' => e = .returned (.string ⟨(let8 l :: (if l = 3 then [] else 40 :: (K.flatMap F ++ [41]))).toArray⟩) ∧ Below w.heap.size w w' := by
  subst ha
  have h0 : ∀ o, (w.alloc o).cell? { block := (ad.add (v * 2)).block, off := (ad.add (v * 2)).off + 1 } = some (.int .i64 l) := fun o => hc _ (by rw [show (w.alloc o).heap = w.heap.push o from rfl, Array.getElem?_push, if_neg (by omega)])
  have hi : (0 : Int) ≤ v ∧ (v : Int) < n := ⟨by omega, by omega⟩
  have hI0 := Lib.IsBuilderF.of (Lib.fresh_isBuilder 58 5 w)
  have hb0 : Below w.heap.size w (w.alloc (.cells #[.pointer none, .slice none 0 0] 58)) := (Below.refl _ w).alloc (Nat.le_refl _) _
  rcases (show l = 3 ∨ l = 0 ∨ l = 1 ∨ l = 2 by omega) with rfl | rfl | rfl | rfl
  · go_enter Try.func21, Try.ntmps21
    go_wp2_with (go_at_call 28; refine (wb_spec w.heap.size w.heap.size _ 112 _ hI0 (by simp) hb0.size).mono ?_)
    rintro e w1 ⟨rfl, hA, hB, hO⟩
    have h1 := hc w1 ((hb0.trans hB).block _ hb)
    go_wp2_with (go_at_call 29; refine (st_spec w.heap.size w.heap.size [112] w1 (.inr hA) (hb0.trans hB).size).mono ?_)
    rintro e w2 ⟨rfl, _, hC, _⟩
    go_wp2
    go_ret
    exact ⟨rfl, (hb0.trans hB).trans hC⟩
  · go_enter Try.func21, Try.ntmps21
    go_wp2_with (go_at_call 28; refine (wb_spec w.heap.size w.heap.size _ 109 _ hI0 (by simp) hb0.size).mono ?_)
    rintro e w1 ⟨rfl, hA, hB, hO⟩
    have h1 := hc w1 ((hb0.trans hB).block _ hb)
    have hb1 := hb0.trans hB
    go_wp2_with (go_at_call 28; refine (wb_spec w.heap.size w.heap.size _ 40 w1 (.inr hA) (by simp) hb1.size).mono ?_)
    rintro e w2 ⟨rfl, hA2, hB2, hO2⟩
    have hb2 := hb1.trans hB2
    go_wp2_with (go_at_call 26; refine (hK (by decide) w2 hb2).mono ?_)
    rintro e w3 ⟨o, cap, rfl, hB3, hG⟩
    have hb3 : Below w.heap.size w w3 := hb2.trans (hB3.mono hb2.size)
    have hI3 : Lib.IsBuilderF 58 5 w.heap.size w.heap.size (Lib.byteCells [109, 40]) w3 := builder_keeps (.inr hA2) hB3
    go_wp2
    go_loopw [27] (fun i wr => ∃ m : Nat, m ≤ K.length ∧ i = .int .i64 m ∧ Lib.IsBuilderF 58 5 w.heap.size w.heap.size (Lib.byteCells (109 :: 40 :: (K.take m).flatMap F)) wr ∧ Below w.heap.size w wr ∧ Hid (∀ (g : Nat) (cur : Array Value), w2.heap.size ≤ g → w3.heap[g]? = some (.cells cur 3 (0, 0)) → wr.heap[g]? = some (.cells cur 3 (0, 0)))) (fun i _ => K.length - (RowKit.intOf i).toNat)
    case atStart =>
      exact ⟨0, Nat.zero_le _, rfl, by simpa using hI3, hb3, fun _ _ _ h => h⟩
    case round =>
      obtain ⟨m, hm, rfl, hI, hbw, hkp⟩ := hrel
      have hlen := flat_len F (fun k hk => (hF (by decide) k hk).1) m
      by_cases hlt : m < K.length
      · obtain ⟨g, cur, rfl, hg1, hg2, hg3⟩ := hG (by omega)
        have hgr := hkp.out g cur hg1 hg2
        have hcell : wr.cell? ⟨g, m, none⟩ = some (.int .i64 K[m]) := by simp [World.cell?, hgr, hg3 m hlt]
        have hmi : (0 : Int) ≤ m ∧ (m : Int) < K.length := ⟨by omega, by omega⟩
        obtain ⟨hFl, hFc⟩ := hF (by decide) K[m] (List.getElem_mem hlt)
        have hkp2 : Hid _ := hkp
        clear hkp
        go_wp2_with (go_at_call 21; refine (hFc wr hbw).mono ?_)
        rintro e w4 ⟨rfl, hB4⟩
        have hI4 := builder_keeps hI hB4
        have hb4 : Below w.heap.size w w4 := hbw.trans (hB4.mono hbw.size)
        go_wp2_with (go_at_call 30; refine (ws_spec w.heap.size w.heap.size _ ⟨(F K[m]).toArray⟩ w4 hI4 (by rw [Lib.byteCells_length]; simp only [List.length_cons, ByteArray.size, List.size_toArray]; omega) hb4.size).mono ?_)
        rintro e w5 ⟨rfl, hA5, hB5, hO5⟩
        have htk : (K.take (m + 1)).flatMap F = (K.take m).flatMap F ++ F K[m] := by rw [List.take_succ_eq_append_getElem hlt, List.flatMap_append]; simp
        have hw : IntKind.i64.wrap ((m : Int) + 1) = (m : Int) + 1 := by rw [IntKind.wrap_i64]; omega
        go_wp2
        go_roundw
        case rel =>
          refine ⟨m + 1, by omega, by go_num, ?_, hb4.trans hB5, fun g' cur' e1 e2 => ?_⟩
          · rw [htk]
            have e : Lib.byteCells (109 :: 40 :: ((K.take m).flatMap F ++ F K[m])) = Lib.byteCells (109 :: 40 :: (K.take m).flatMap F) ++ Lib.strCells ⟨(F K[m]).toArray⟩ := by
              rw [Lib.strCells_eq, ← Lib.byteCells_append]; rfl
            rw [e]
            exact .inr hA5
          · refine hO5 g' _ ?_ ?_ (fun c fz e => by cases e)
            · have e3 := hkp2.out g' cur' e1 e2
              rw [hB4.block g' (Array.getElem?_eq_some_iff.1 e3).1]
              exact e3
            · intro e
              have e4 := Option.some.inj e
              have e5 := hb1.size
              have e6 := hA2.lt
              omega
        case measure => simp [RowKit.intOf]; omega
      · have hme : m = K.length := by omega
        subst hme
        go_wp2_with (go_at_call 28; refine (wb_spec w.heap.size w.heap.size _ 41 wr hI (by rw [Lib.byteCells_length]; simp only [List.length_cons]; omega) hbw.size).mono ?_)
        rintro e w5 ⟨rfl, hA5, hB5, hO5⟩
        have e : Lib.byteCells (109 :: 40 :: (K.take K.length).flatMap F) ++ [Value.int .u8 41] = Lib.byteCells (109 :: 40 :: (K.flatMap F ++ [41])) := by
          rw [List.take_length]; simp [Lib.byteCells]
        rw [e] at hA5
        have hb5 := hbw.trans hB5
        go_wp2_with (go_at_call 29; refine (st_spec w.heap.size w.heap.size _ w5 (.inr hA5) hb5.size).mono ?_)
        rintro e w6 ⟨rfl, _, hC, _⟩
        go_wp2
        go_ret
        exact ⟨rfl, hb5.trans hC⟩
  · go_enter Try.func21, Try.ntmps21
    go_wp2_with (go_at_call 28; refine (wb_spec w.heap.size w.heap.size _ 110 _ hI0 (by simp) hb0.size).mono ?_)
    rintro e w1 ⟨rfl, hA, hB, hO⟩
    have h1 := hc w1 ((hb0.trans hB).block _ hb)
    have hb1 := hb0.trans hB
    go_wp2_with (go_at_call 28; refine (wb_spec w.heap.size w.heap.size _ 40 w1 (.inr hA) (by simp) hb1.size).mono ?_)
    rintro e w2 ⟨rfl, hA2, hB2, hO2⟩
    have hb2 := hb1.trans hB2
    go_wp2_with (go_at_call 26; refine (hK (by decide) w2 hb2).mono ?_)
    rintro e w3 ⟨o, cap, rfl, hB3, hG⟩
    have hb3 : Below w.heap.size w w3 := hb2.trans (hB3.mono hb2.size)
    have hI3 : Lib.IsBuilderF 58 5 w.heap.size w.heap.size (Lib.byteCells [110, 40]) w3 := builder_keeps (.inr hA2) hB3
    go_wp2
    go_loopw [27] (fun i wr => ∃ m : Nat, m ≤ K.length ∧ i = .int .i64 m ∧ Lib.IsBuilderF 58 5 w.heap.size w.heap.size (Lib.byteCells (110 :: 40 :: (K.take m).flatMap F)) wr ∧ Below w.heap.size w wr ∧ Hid (∀ (g : Nat) (cur : Array Value), w2.heap.size ≤ g → w3.heap[g]? = some (.cells cur 3 (0, 0)) → wr.heap[g]? = some (.cells cur 3 (0, 0)))) (fun i _ => K.length - (RowKit.intOf i).toNat)
    case atStart =>
      exact ⟨0, Nat.zero_le _, rfl, by simpa using hI3, hb3, fun _ _ _ h => h⟩
    case round =>
      obtain ⟨m, hm, rfl, hI, hbw, hkp⟩ := hrel
      have hlen := flat_len F (fun k hk => (hF (by decide) k hk).1) m
      by_cases hlt : m < K.length
      · obtain ⟨g, cur, rfl, hg1, hg2, hg3⟩ := hG (by omega)
        have hgr := hkp.out g cur hg1 hg2
        have hcell : wr.cell? ⟨g, m, none⟩ = some (.int .i64 K[m]) := by simp [World.cell?, hgr, hg3 m hlt]
        have hmi : (0 : Int) ≤ m ∧ (m : Int) < K.length := ⟨by omega, by omega⟩
        obtain ⟨hFl, hFc⟩ := hF (by decide) K[m] (List.getElem_mem hlt)
        have hkp2 : Hid _ := hkp
        clear hkp
        go_wp2_with (go_at_call 21; refine (hFc wr hbw).mono ?_)
        rintro e w4 ⟨rfl, hB4⟩
        have hI4 := builder_keeps hI hB4
        have hb4 : Below w.heap.size w w4 := hbw.trans (hB4.mono hbw.size)
        go_wp2_with (go_at_call 30; refine (ws_spec w.heap.size w.heap.size _ ⟨(F K[m]).toArray⟩ w4 hI4 (by rw [Lib.byteCells_length]; simp only [List.length_cons, ByteArray.size, List.size_toArray]; omega) hb4.size).mono ?_)
        rintro e w5 ⟨rfl, hA5, hB5, hO5⟩
        have htk : (K.take (m + 1)).flatMap F = (K.take m).flatMap F ++ F K[m] := by rw [List.take_succ_eq_append_getElem hlt, List.flatMap_append]; simp
        have hw : IntKind.i64.wrap ((m : Int) + 1) = (m : Int) + 1 := by rw [IntKind.wrap_i64]; omega
        go_wp2
        go_roundw
        case rel =>
          refine ⟨m + 1, by omega, by go_num, ?_, hb4.trans hB5, fun g' cur' e1 e2 => ?_⟩
          · rw [htk]
            have e : Lib.byteCells (110 :: 40 :: ((K.take m).flatMap F ++ F K[m])) = Lib.byteCells (110 :: 40 :: (K.take m).flatMap F) ++ Lib.strCells ⟨(F K[m]).toArray⟩ := by
              rw [Lib.strCells_eq, ← Lib.byteCells_append]; rfl
            rw [e]
            exact .inr hA5
          · refine hO5 g' _ ?_ ?_ (fun c fz e => by cases e)
            · have e3 := hkp2.out g' cur' e1 e2
              rw [hB4.block g' (Array.getElem?_eq_some_iff.1 e3).1]
              exact e3
            · intro e
              have e4 := Option.some.inj e
              have e5 := hb1.size
              have e6 := hA2.lt
              omega
        case measure => simp [RowKit.intOf]; omega
      · have hme : m = K.length := by omega
        subst hme
        go_wp2_with (go_at_call 28; refine (wb_spec w.heap.size w.heap.size _ 41 wr hI (by rw [Lib.byteCells_length]; simp only [List.length_cons]; omega) hbw.size).mono ?_)
        rintro e w5 ⟨rfl, hA5, hB5, hO5⟩
        have e : Lib.byteCells (110 :: 40 :: (K.take K.length).flatMap F) ++ [Value.int .u8 41] = Lib.byteCells (110 :: 40 :: (K.flatMap F ++ [41])) := by
          rw [List.take_length]; simp [Lib.byteCells]
        rw [e] at hA5
        have hb5 := hbw.trans hB5
        go_wp2_with (go_at_call 29; refine (st_spec w.heap.size w.heap.size _ w5 (.inr hA5) hb5.size).mono ?_)
        rintro e w6 ⟨rfl, _, hC, _⟩
        go_wp2
        go_ret
        exact ⟨rfl, hb5.trans hC⟩
  · go_enter Try.func21, Try.ntmps21
    go_wp2_with (go_at_call 28; refine (wb_spec w.heap.size w.heap.size _ 99 _ hI0 (by simp) hb0.size).mono ?_)
    rintro e w1 ⟨rfl, hA, hB, hO⟩
    have h1 := hc w1 ((hb0.trans hB).block _ hb)
    have hb1 := hb0.trans hB
    go_wp2_with (go_at_call 28; refine (wb_spec w.heap.size w.heap.size _ 40 w1 (.inr hA) (by simp) hb1.size).mono ?_)
    rintro e w2 ⟨rfl, hA2, hB2, hO2⟩
    have hb2 := hb1.trans hB2
    go_wp2_with (go_at_call 26; refine (hK (by decide) w2 hb2).mono ?_)
    rintro e w3 ⟨o, cap, rfl, hB3, hG⟩
    have hb3 : Below w.heap.size w w3 := hb2.trans (hB3.mono hb2.size)
    have hI3 : Lib.IsBuilderF 58 5 w.heap.size w.heap.size (Lib.byteCells [99, 40]) w3 := builder_keeps (.inr hA2) hB3
    go_wp2
    go_loopw [27] (fun i wr => ∃ m : Nat, m ≤ K.length ∧ i = .int .i64 m ∧ Lib.IsBuilderF 58 5 w.heap.size w.heap.size (Lib.byteCells (99 :: 40 :: (K.take m).flatMap F)) wr ∧ Below w.heap.size w wr ∧ Hid (∀ (g : Nat) (cur : Array Value), w2.heap.size ≤ g → w3.heap[g]? = some (.cells cur 3 (0, 0)) → wr.heap[g]? = some (.cells cur 3 (0, 0)))) (fun i _ => K.length - (RowKit.intOf i).toNat)
    case atStart =>
      exact ⟨0, Nat.zero_le _, rfl, by simpa using hI3, hb3, fun _ _ _ h => h⟩
    case round =>
      obtain ⟨m, hm, rfl, hI, hbw, hkp⟩ := hrel
      have hlen := flat_len F (fun k hk => (hF (by decide) k hk).1) m
      by_cases hlt : m < K.length
      · obtain ⟨g, cur, rfl, hg1, hg2, hg3⟩ := hG (by omega)
        have hgr := hkp.out g cur hg1 hg2
        have hcell : wr.cell? ⟨g, m, none⟩ = some (.int .i64 K[m]) := by simp [World.cell?, hgr, hg3 m hlt]
        have hmi : (0 : Int) ≤ m ∧ (m : Int) < K.length := ⟨by omega, by omega⟩
        obtain ⟨hFl, hFc⟩ := hF (by decide) K[m] (List.getElem_mem hlt)
        have hkp2 : Hid _ := hkp
        clear hkp
        go_wp2_with (go_at_call 21; refine (hFc wr hbw).mono ?_)
        rintro e w4 ⟨rfl, hB4⟩
        have hI4 := builder_keeps hI hB4
        have hb4 : Below w.heap.size w w4 := hbw.trans (hB4.mono hbw.size)
        go_wp2_with (go_at_call 30; refine (ws_spec w.heap.size w.heap.size _ ⟨(F K[m]).toArray⟩ w4 hI4 (by rw [Lib.byteCells_length]; simp only [List.length_cons, ByteArray.size, List.size_toArray]; omega) hb4.size).mono ?_)
        rintro e w5 ⟨rfl, hA5, hB5, hO5⟩
        have htk : (K.take (m + 1)).flatMap F = (K.take m).flatMap F ++ F K[m] := by rw [List.take_succ_eq_append_getElem hlt, List.flatMap_append]; simp
        have hw : IntKind.i64.wrap ((m : Int) + 1) = (m : Int) + 1 := by rw [IntKind.wrap_i64]; omega
        go_wp2
        go_roundw
        case rel =>
          refine ⟨m + 1, by omega, by go_num, ?_, hb4.trans hB5, fun g' cur' e1 e2 => ?_⟩
          · rw [htk]
            have e : Lib.byteCells (99 :: 40 :: ((K.take m).flatMap F ++ F K[m])) = Lib.byteCells (99 :: 40 :: (K.take m).flatMap F) ++ Lib.strCells ⟨(F K[m]).toArray⟩ := by
              rw [Lib.strCells_eq, ← Lib.byteCells_append]; rfl
            rw [e]
            exact .inr hA5
          · refine hO5 g' _ ?_ ?_ (fun c fz e => by cases e)
            · have e3 := hkp2.out g' cur' e1 e2
              rw [hB4.block g' (Array.getElem?_eq_some_iff.1 e3).1]
              exact e3
            · intro e
              have e4 := Option.some.inj e
              have e5 := hb1.size
              have e6 := hA2.lt
              omega
        case measure => simp [RowKit.intOf]; omega
      · have hme : m = K.length := by omega
        subst hme
        go_wp2_with (go_at_call 28; refine (wb_spec w.heap.size w.heap.size _ 41 wr hI (by rw [Lib.byteCells_length]; simp only [List.length_cons]; omega) hbw.size).mono ?_)
        rintro e w5 ⟨rfl, hA5, hB5, hO5⟩
        have e : Lib.byteCells (99 :: 40 :: (K.take K.length).flatMap F) ++ [Value.int .u8 41] = Lib.byteCells (99 :: 40 :: (K.flatMap F ++ [41])) := by
          rw [List.take_length]; simp [Lib.byteCells]
        rw [e] at hA5
        have hb5 := hbw.trans hB5
        go_wp2_with (go_at_call 29; refine (st_spec w.heap.size w.heap.size _ w5 (.inr hA5) hb5.size).mono ?_)
        rintro e w6 ⟨rfl, _, hC, _⟩
        go_wp2
        go_ret
        exact ⟨rfl, hb5.trans hC⟩
theorem of_ret (f : Bool) (t : List (Int × Int)) (v : Nat) (F : Int → List UInt8) (hv : v < t.length) (hl : t.length ≤ 1000) (hlev : 0 ≤ lev t v ∧ lev t v ≤ 3) (hk : lev t v ≠ 3 → ∀ k ∈ kidsL t v, (F k).length ≤ 1000000 ∧ Ret Try.prog 21 [.sl f (vts t), .int .i64 k] (.str ⟨(F k).toArray⟩)) :
    Ret Try.prog 21 [.sl f (vts t), .int .i64 v] (.str ⟨(ofT t v F).toArray⟩) := by
  refine Ret_str ⟨_, (by kernel_rfl : Try.prog.funcs[21]? = some Try.f21), by rfl, by rfl⟩ fun w Im M vs hI hs hr => ?_
  have h2 : vs.size = 2 := hs
  obtain ⟨v0, v1, rfl⟩ : ∃ v0 v1, vs = #[v0, v1] := ⟨vs[0], vs[1], by
    apply Array.ext
    · simp [h2]
    · intro i h1 h3
      match i with
      | 0 => rfl
      | 1 => rfl
      | n + 2 => exact absurd h3 (by show ¬ (n + 2 < 2); omega)⟩
  have r0 := R_pure (hr 0 v0 _ rfl rfl) (by rfl)
  have r1 := hr 1 v1 _ rfl rfl
  rw [R_int r1]
  obtain ⟨o, c, ad, sz, cs, rfl, q1, q2, q3, q4, q5, q6, q7, q8⟩ := R_sl r0
  rw [vts_len] at q4 r0 ⊢
  have hpos : 0 < t.length := by omega
  obtain ⟨ho, hIm⟩ := q4 hpos
  have hx : (vts t)[v]? = some [.int .i64 (par t v), .int .i64 (lev t v)] := by
    simp [vts, par, lev, hv, List.getD_eq_getElem?_getD]
  have hsz : sz = 2 := (q5 v _ hx).symm
  subst hsz
  have hcl := q6 v _ 1 _ hx rfl
  rw [R_int (q8 v _ 1 _ hx rfl)] at hcl
  have hmono : ∀ w1 : World, Below w.heap.size w w1 → R Im w1 (fun _ => none) (.slice o t.length c) (.sl f (vts t)) := fun w1 hb => r0.mono (fun _ h => h) (fun b hb' => hb.block b (hI b hb')) (fun _ _ h => h)
  have hIl : ∀ w1 : World, Below w.heap.size w w1 → ∀ b, Im b → b < w1.heap.size := fun w1 hb b hb' => Nat.lt_of_lt_of_le (hI b hb') hb.size
  refine of_walk o t.length c ad (lev t v) v (kidsL t v) F w hv ho (hI _ hIm) hlev (fun w1 h1 => ?_) (fun _ w1 hb => kids_calls (by omega) (hIl w1 hb) (hmono w1 hb)) (fun h3 k hkm => ⟨(hk h3 k hkm).1, fun w1 hb => Calls_str (hk h3 k hkm).2 (hIl w1 hb) rfl (fun i u x hu hx => ?_)⟩) (Nat.le_trans (idxs_len _ _) hl)
  · have e : (⟨(ad.add (v * 2)).block, (ad.add (v * 2)).off + 1, none⟩ : Addr) = ad.add (v * 2 + 1) := by
      have h2 : (ad.add (v * 2)).off = ad.off + v * 2 := by unfold Addr.add; split <;> simp_all
      rw [add_block, h2]
      unfold Addr.add
      rw [if_neg (by omega)]
      rfl
    rw [e, World.cell?_of_block (w := w) (w' := w1) (by rw [add_block]; exact h1)]
    exact hcl
  · match i with
    | 0 => simp at hu hx; subst hu hx; exact hmono w1 hb
    | 1 => simp at hu hx; subst hu hx; exact .int _ _
    | n + 2 => simp at hx
end Go.Proofs.YtaaenepdhjdmlaaT
