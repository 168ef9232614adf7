/- Walks over the program's functions, on values without memory, and what they come to. No condition. -/
import Derived.Test.YtodfkdnkgedgeaaTw24
import Derived.Test.YtodfkdnkgedgeaaBase
import Derived.WalkKit
import Derived.BigCall
import Derived.Maps.Own
import Derived.Maps.OwnOps
set_option linter.unusedVariables false
set_option linter.unusedSimpArgs false
namespace Go.Proofs.YtodfkdnkgedgeaaT
open Go Go.Proofs Go.RowKit Go.ChangeMaps Go.Proofs.YtodfkdnkgedgeaaT.Ty
set_option linter.unusedVariables false
/-- Block b holds a map from numbers whose entries, as they were put in, are l. -/
def holdsMap (w : World) (b : Nat) (l : List (Int × Value)) : Prop :=
  ∃ es clock, w.heap[b]? = some (.map es clock) ∧ es.toList.map (fun e => (e.key, e.val)) = l.map (fun p => (Value.int .i64 p.1, p.2))
theorem findNow_none (k : Int) : ∀ (es : List MapEntry) (l : List (Int × Value)) (i : Nat), es.map (fun e => (e.key, e.val)) = l.map (fun p => (Value.int .i64 p.1, p.2)) → l.lookup k = none →
    Instr.findNow (.int .i64) (.int .i64 k) es i = some none
  | [], _, _, _, _ => rfl
  | e :: es, [], _, h, _ => by simp at h
  | e :: es, p :: l, i, h, hl => by
    obtain ⟨a, v⟩ := p
    simp only [List.map_cons, List.cons.injEq, Prod.mk.injEq] at h
    rw [List.lookup_cons] at hl
    split at hl
    · cases hl
    · rename_i hne
      have hne' : (k == a) = false := by simpa using hne
      simp only [Instr.findNow, Instr.sameNow, h.1.1, if_true, hne']
      exact findNow_none k es l (i + 1) h.2 hl
theorem findNow_some (k : Int) (v : Value) : ∀ (es : List MapEntry) (l : List (Int × Value)) (i : Nat), es.map (fun e => (e.key, e.val)) = l.map (fun p => (Value.int .i64 p.1, p.2)) → l.lookup k = some v →
    ∃ j, Instr.findNow (.int .i64) (.int .i64 k) es i = some (some (j, v))
  | [], [], _, _, h => by simp at h
  | [], _ :: _, _, h, _ => by simp at h
  | e :: es, [], _, h, _ => by simp at h
  | e :: es, p :: l, i, h, hl => by
    obtain ⟨a, u⟩ := p
    simp only [List.map_cons, List.cons.injEq, Prod.mk.injEq] at h
    rw [List.lookup_cons] at hl
    split at hl
    · rename_i he
      cases hl
      have he' : (k == a) = true := by simpa using he
      simp only [Instr.findNow, Instr.sameNow, h.1.1, if_true, he', h.1.2]
      exact ⟨_, rfl⟩
    · rename_i hne
      have hne' : (k == a) = false := by simpa using hne
      simp only [Instr.findNow, Instr.sameNow, h.1.1, if_true, hne']
      exact findNow_some k v es l (i + 1) h.2 hl
theorem holdsMap.insert {P : Program} {t k e : TypeId} {w : World} {b : Nat} {l : List (Int × Value)} (h : holdsMap w b l) (ht : P.underlying t = some (.map k e)) (hk : P.underlying k = some (.int .i64)) (a : Int) (v : Value) (hn : l.lookup a = none) :
    ∃ w', (Instr.mapUpdate t (.map (some b)) (.int .i64 a) v).run P w = .ok () w' ∧ holdsMap w' b (l ++ [(a, v)]) ∧ w.grownBy w' (some b) := by
  obtain ⟨es, clock, hb, he⟩ := h
  have hc := MapKept.run_checkKey (P := P) (w := w) (k := .int .i64 a) hk (by trivial) false 9999
  have hf := MapKept.run_findKey (P := P) (w := w) hk (findNow_none a es.toList l 0 he hn)
  refine ⟨ChangeMaps.setBlock w b (.map (es.push ⟨.int .i64 a, v, clock⟩) (clock + 1)), ?_, ⟨_, _, heap_setBlock_same hb _, ?_⟩, ⟨rfl, rfl, rfl, by simp [ChangeMaps.setBlock], fun i _ hi => heap_setBlock_other hb _ (fun e => hi (by rw [e]))⟩⟩
  · simp [Instr.mapUpdate, run_underlying ht, MapKept.run_getObj_map hb, hc, hf, MapKept.run_setObj_map _ hb, Result.andThen, ChangeMaps.setBlock]
  · simp [he]
theorem holdsMap.find {P : Program} {t k e : TypeId} {w : World} {b : Nat} {l : List (Int × Value)} (h : holdsMap w b l) (ht : P.underlying t = some (.map k e)) (hk : P.underlying k = some (.int .i64)) {z : Value} (hz : (zeroValue e).run P w = .ok z w) (a : Int) :
    (Instr.lookup t (.map (some b)) (.int .i64 a) true).run P w = .ok (.tuple #[(l.lookup a).getD z, .bool (l.lookup a).isSome]) w := by
  obtain ⟨es, clock, hb, he⟩ := h
  have hc := fun em => MapKept.run_checkKey (P := P) (w := w) (k := .int .i64 a) hk (by trivial) em 9999
  cases hl : l.lookup a with
  | none =>
    have hf := MapKept.run_findKey (P := P) (w := w) hk (findNow_none a es.toList l 0 he hl)
    simp [Instr.lookup, run_underlying ht, MapKept.run_getObj_map hb, hc, hf, hz, Result.andThen]
  | some v =>
    obtain ⟨j, hj⟩ := findNow_some a v es.toList l 0 he hl
    have hf := MapKept.run_findKey (P := P) (w := w) hk hj
    simp [Instr.lookup, run_underlying ht, MapKept.run_getObj_map hb, hc, hf, Result.andThen]
theorem wpList_insert_num {P : Program} (w : World) {ops : Array Oper} {rest : List Oper} {o : Oper} {a : Act} {Q : Exit → Act → World → Prop}
    (hg : o.guard = none) (m x v : Operand) (t : TypeId) (hop : o.op = Op.insert t m x v)
    (k e : TypeId) (ht : P.underlying t = some (.map k e)) (hk : P.underlying k = some (.int .i64)) (b : Nat) (l : List (Int × Value))
    (hm : a.eval m = .map (some b)) (hown : holdsMap w b l) (key : Int) (val : Value) (hx : a.eval x = .int .i64 key) (hv : a.eval v = val) (hn : l.lookup key = none)
    (hK : ∀ w', holdsMap w' b (l ++ [(key, val)]) → w.grownBy w' (some b) → wpList P ops Q rest (a.put o.dst undef) w') :
    wpList P ops Q (o :: rest) a w := by
  refine wpList_plain hg fun K' hK' => ?_
  obtain ⟨w', hrun, r1, r2⟩ := hown.insert ht hk key val hn
  unfold Oper.wp
  simp [execOp, hop, hm, hx, hv, hrun, Result.andThen]
  exact hK' _ _ (hK w' r1 r2)
theorem holdsMap_made (w : World) : holdsMap (w.alloc (.map #[] 0)) w.heap.size [] := ⟨#[], 0, (MapKept.heap_alloc w _).1, by simp⟩
theorem wpList_lookup_num {P : Program} (w : World) {ops : Array Oper} {rest : List Oper} {o : Oper} {a : Act} {Q : Exit → Act → World → Prop}
    (hg : o.guard = none) (m x : Operand) (t : TypeId) (hop : o.op = Op.lookup t m x true)
    (k e : TypeId) (ht : P.underlying t = some (.map k e)) (hk : P.underlying k = some (.int .i64)) {z : Value} (hz : ∀ w, (zeroValue e).run P w = .ok z w) (b : Nat) (l : List (Int × Value))
    (hm : a.eval m = .map (some b)) (hown : holdsMap w b l) (key : Int) (hx : a.eval x = .int .i64 key)
    (hK : wpList P ops Q rest (a.put o.dst (.tuple #[(l.lookup key).getD z, .bool (l.lookup key).isSome])) w) :
    wpList P ops Q (o :: rest) a w := by
  refine wpList_plain hg fun K' hK' => ?_
  have hrun := hown.find ht hk (hz w) key
  unfold Oper.wp
  simp [execOp, hop, hm, hx, hrun, Result.andThen]
  exact hK' _ _ hK
set_option maxHeartbeats 4000000
set_option maxRecDepth 1000000
theorem u103' : Try.prog.underlying 103 = some (.map 3 79) := by kernel_rfl
theorem zero79 (w : World) : (zeroValue 79).run Try.prog w = .ok .nilFunc w := by kernel_rfl
def doesL : List (Int × Value) := [(1, .func (.func 40) #[] #[]), (2, .func (.func 41) #[] #[]), (3, .func (.func 42) #[] #[]), (4, .func (.func 43) #[] #[]), (5, .func (.func 44) #[] #[]), (6, .func (.func 45) #[] #[]), (7, .func (.func 46) #[] #[]), (8, .func (.func 47) #[] #[]), (9, .func (.func 48) #[] #[]), (10, .func (.func 49) #[] #[])]
theorem Below_grown {w v w' : World} (h : Below w.heap.size w v) (hg : v.grownBy w' (some w.heap.size)) : Below w.heap.size w w' := h.grown hg h.size (fun k e => by cases e; exact Nat.le_refl _)
theorem does_walk (op : Int) (w : World) : Calls Try.prog 25 #[.int .i64 op] w fun e w' => e = .returned (.tuple #[(doesL.lookup op).getD .nilFunc, .bool (doesL.lookup op).isSome]) ∧ Below w.heap.size w w' := by
  have hmm := @run_makeMap Try.prog
  have hm0 := holdsMap_made w
  have hb0 : Below w.heap.size w (w.alloc (.map #[] 0)) := (Below.refl _ _).alloc (Nat.le_refl _) _
  go_enter Try.func25, Try.ntmps25
  go_wp2_with (first
    | (refine wpList_insert_num _ rfl _ _ _ 103 rfl 3 79 u103' u3 _ _ rfl (by assumption) _ _ rfl rfl rfl ?_; intro w1 hown1 hgrow1; have hb1 := Below_grown (by assumption) hgrow1)
    | (refine wpList_lookup_num _ rfl _ _ 103 rfl 3 79 u103' u3 zero79 _ _ rfl (by assumption) _ rfl ?_)
    | go_in)
  go_ret2
  exact ⟨rfl, by assumption⟩
theorem enters25 : Enters Try.prog 25 := ⟨Try.f25, Try.func25, by kernel_rfl, by kernel_rfl⟩
theorem Keeps_of {w w' : World} {S : Nat → Prop} (h : Below w.heap.size w w') : Keeps S w w' := ⟨h.os, h.tape, h.output, h.size, fun k hk _ => h.block k hk⟩
theorem Ret_fb {g : FuncId} {args : List AV} {v : Value} {c : AV} {f : Bool} (he : Enters Try.prog g) (hv : ∀ Im w M, R Im w M v c)
    (h : ∀ (w : World) (Im : Nat → Prop) (M : Nat → Option Value) (vs : Array Value), (∀ b, Im b → b < w.heap.size) → vs.size = args.length → (∀ (i : Nat) v x, vs[i]? = some v → args[i]? = some x → R Im w M v x) →
      Calls Try.prog g vs w fun e w' => e = .returned (.tuple #[v, .bool f]) ∧ Below w.heap.size w w') : Ret Try.prog g args (.tup [c, .bool f]) := by
  refine ⟨he, fun w Im M vs hl hs hr ho hM hap hsp => (h w Im M vs hl hs hr).mono ?_⟩
  rintro e w' ⟨rfl, hb⟩
  refine ⟨_, Im, fun _ => none, rfl, Keeps_of hb, fun _ h => h, fun _ h => .inl h, fun b hb' => Nat.lt_of_lt_of_le (hl b hb') hb.size, .tup _ _ rfl fun i u x hu hx => ?_, fun i o ho => by simp at ho, fun _ _ => rfl, fun i j b _ h => ?_, fun i b h => ?_, fun i hi => absurd hi (by simp)⟩
  · match i with
    | 0 => simp at hu hx; subst hu hx; exact hv _ _ _
    | 1 => simp at hu hx; subst hu hx; exact .bool _
    | n + 2 => simp at hx
  · unfold ownB at h; simp at h
  · unfold ownB at h; simp at h
theorem doesL_at (op : Int) : (1 ≤ op ∧ op ≤ 10 ∧ doesL.lookup op = some (.func (.func (39 + op.toNat)) #[] #[])) ∨ (¬ (1 ≤ op ∧ op ≤ 10) ∧ doesL.lookup op = none) := by
  by_cases h : 1 ≤ op ∧ op ≤ 10
  · obtain ⟨n, rfl⟩ : ∃ n : Nat, op = n := ⟨op.toNat, by omega⟩
    have hn : n ≤ 10 := by omega
    left
    refine ⟨h.1, h.2, ?_⟩
    match n, hn, h with
    | 0, _, h => omega
    | 1, _, _ => rfl
    | 2, _, _ => rfl
    | 3, _, _ => rfl
    | 4, _, _ => rfl
    | 5, _, _ => rfl
    | 6, _, _ => rfl
    | 7, _, _ => rfl
    | 8, _, _ => rfl
    | 9, _, _ => rfl
    | 10, _, _ => rfl
  · right
    refine ⟨h, ?_⟩
    have hk : ∀ a : Int, 1 ≤ a → a ≤ 10 → (op == a) = false := fun a h1 h2 => by simp; omega
    simp only [doesL, List.lookup_cons, hk _ (by decide : (1 : Int) ≤ 1) (by decide), hk 2 (by decide) (by decide), hk 3 (by decide) (by decide), hk 4 (by decide) (by decide), hk 5 (by decide) (by decide), hk 6 (by decide) (by decide), hk 7 (by decide) (by decide), hk 8 (by decide) (by decide), hk 9 (by decide) (by decide), hk 10 (by decide) (by decide), List.lookup_nil]
def doesF (op : Int) : AV := if 1 ≤ op ∧ op ≤ 10 then .fn (39 + op.toNat) [] else .nilf
theorem does_spec (op : Int) : Ret Try.prog 25 [.int .i64 op] (.tup [doesF op, .bool (decide (1 ≤ op ∧ op ≤ 10))]) := by
  have hw : ∀ (w : World) (Im : Nat → Prop) (M : Nat → Option Value) (vs : Array Value), (∀ b, Im b → b < w.heap.size) → vs.size = [AV.int .i64 op].length → (∀ (i : Nat) v x, vs[i]? = some v → [AV.int .i64 op][i]? = some x → R Im w M v x) →
      Calls Try.prog 25 vs w fun e w' => e = .returned (.tuple #[(doesL.lookup op).getD .nilFunc, .bool (doesL.lookup op).isSome]) ∧ Below w.heap.size w w' := by
    intro w Im M vs hl hs hr
    have h0 : vs = #[.int .i64 op] := by
      have h1 : vs.size = 1 := hs
      refine Array.ext (by simpa using h1) fun i hi _ => ?_
      have hi0 : i = 0 := by omega
      subst hi0
      have h2 := hr 0 vs[0] _ (by simp) rfl
      simpa using R_int h2
    rw [h0]
    exact does_walk op w
  rcases doesL_at op with ⟨h1, h2, h3⟩ | ⟨h1, h3⟩
  · rw [show doesF op = .fn (39 + op.toNat) [] from if_pos ⟨h1, h2⟩, decide_eq_true ⟨h1, h2⟩]
    rw [h3] at hw
    exact Ret_fb enters25 (fun Im w M => .fn _ _ _ rfl (fun i v c hv => by simp at hv)) hw
  · rw [show doesF op = .nilf from if_neg h1, decide_eq_false h1]
    rw [h3] at hw
    exact Ret_fb enters25 (fun Im w M => .nilf) hw
end Go.Proofs.YtodfkdnkgedgeaaT
