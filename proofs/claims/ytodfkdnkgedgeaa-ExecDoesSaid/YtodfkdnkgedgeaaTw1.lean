/- Walks over the program's functions, on values without memory, and what they come to. No condition. -/
import Derived.Below
import Derived.Deep.Draws
import Derived.Deep.Slices
import Derived.Laws.AppendOwn
import Derived.Laws.MakeOwn
import Derived.Laws.IdiomCopy
import Derived.Laws.Rows
import Derived.WalkKit
import Derived.Orders
set_option linter.unusedVariables false
set_option linter.unusedSimpArgs false
namespace Go.Proofs.YtodfkdnkgedgeaaT
open Go
inductive AV where
 | int (k : IntKind) (n : Int)
 | bool (b : Bool)
 | str (s : ByteArray)
 | nils
 | sl (full : Bool) (es : List (List AV))
 | bsl (id : Nat)
 | nilp
 | ptr (id off : Nat)
 | eptr (id idx sz foff : Nat)
 | cptr (cs : List AV)
 | nilf
 | fn (f : FuncId) (cs : List AV)
 | agg (cs : List AV)
 | tup (cs : List AV)
 | junk
 deriving Inhabited
inductive HO where
 | un
 | dead
 | box (cs : List AV)
 | ibox (cs : List AV)
 | arr (e sz : Nat) (es : List (List AV))
 | imm (es : List (List AV))
 | iter (s : ByteArray) (pos : Nat)
 deriving Inhabited
instance : Inhabited AV := ⟨.junk⟩
instance : Inhabited HO := ⟨.un⟩
structure St where
 tmps : List AV
 heap : List HO
 k : Nat
inductive R (Im : Nat → Prop) (w : World) : (Nat → Option Value) → Value → AV → Prop
 | int {M} (k n) : R Im w M (.int k n) (.int k n)
 | bool {M} (b) : R Im w M (.bool b) (.bool b)
 | str {M} (s) : R Im w M (.string s) (.str s)
 | nils {M} : R Im w M (.slice none 0 0) .nils
 | sl {M} (a : Option Addr) (c : Nat) (full : Bool) (es : List (List AV)) (ad : Addr) (sz : Nat) (cs : Nat → Nat → Value)
   (hc : es.length ≤ c) (hf : full = true → c = es.length) (hm : c ≤ maxLen)
   (ha : 0 < es.length → a = some ad ∧ Im ad.block)
   (hl : ∀ (i : Nat) (x : List AV), es[i]? = some x → x.length = sz)
   (hr : ∀ (i : Nat) (x : List AV) (j : Nat) (y : AV), es[i]? = some x → x[j]? = some y → w.cell? (ad.add (i * sz + j)) = some (cs i j))
   (ho : ∀ (i : Nat) (x : List AV) (j : Nat) (y : AV), es[i]? = some x → x[j]? = some y → (cs i j).oneCell' = true)
   (hv : ∀ (i : Nat) (x : List AV) (j : Nat) (y : AV), es[i]? = some x → x[j]? = some y → R Im w (fun _ => none) (cs i j) y) :
   R Im w M (.slice a es.length c) (.sl full es)
 | bsl {M} (id a n c) (h : M id = some (.slice a n c)) : R Im w M (.slice a n c) (.bsl id)
 | nilp {M} : R Im w M (.pointer none) .nilp
 | ptr {M} (id off b) (h : M id = some (.pointer (some ⟨b, 0, none⟩))) : R Im w M (.pointer (some ⟨b, off, none⟩)) (.ptr id off)
 | eptr {M} (id idx sz foff g n c) (h : M id = some (.slice (some ⟨g, 0, none⟩) n c)) : R Im w M (.pointer (some ⟨g, idx * sz + foff, none⟩)) (.eptr id idx sz foff)
 | cptr {M} (ad : Addr) (cells : List AV) (cs : Nat → Value) (hi : Im ad.block)
   (hr : ∀ (j : Nat) (y : AV), cells[j]? = some y → w.cell? (ad.add j) = some (cs j))
   (ho : ∀ (j : Nat) (y : AV), cells[j]? = some y → (cs j).oneCell' = true)
   (hv : ∀ (j : Nat) (y : AV), cells[j]? = some y → R Im w (fun _ => none) (cs j) y) : R Im w M (.pointer (some ad)) (.cptr cells)
 | nilf {M} : R Im w M .nilFunc .nilf
 | fn {M} (f) (vs : Array Value) (cs : List AV) (hs : vs.size = cs.length) (h : ∀ (i : Nat) v c, vs[i]? = some v → cs[i]? = some c → R Im w M v c) : R Im w M (.func (.func f) #[] vs) (.fn f cs)
 | agg {M} (vs : Array Value) (cs : List AV) (hs : vs.size = cs.length) (ho : ∀ v ∈ vs, v.oneCell' = true) (h : ∀ (i : Nat) v c, vs[i]? = some v → cs[i]? = some c → R Im w M v c) : R Im w M (.agg vs) (.agg cs)
 | tup {M} (vs : Array Value) (cs : List AV) (hs : vs.size = cs.length) (h : ∀ (i : Nat) v c, vs[i]? = some v → cs[i]? = some c → R Im w M v c) : R Im w M (.tuple vs) (.tup cs)
 | junk {M} (v) : R Im w M v .junk
theorem add_block (ad : Addr) (n : Nat) : (ad.add n).block = ad.block := by unfold Addr.add; split <;> rfl
theorem R.mono {Im Im' : Nat → Prop} {w w' : World} {M : Nat → Option Value} {v : Value} {x : AV} (h : R Im w M v x) (hI : ∀ b, Im b → Im' b)
  (hw : ∀ b, Im b → w'.heap[b]? = w.heap[b]?) : ∀ {M' : Nat → Option Value}, (∀ i u, M i = some u → M' i = some u) → R Im' w' M' v x := by
 induction h with
 | int k n => intro M' _; exact .int k n
 | bool b => intro M' _; exact .bool b
 | str s => intro M' _; exact .str s
 | nils => intro M' _; exact .nils
 | sl a c full es ad sz cs hc hf hm ha hl hr ho hv ih =>
  intro M' _
  refine .sl a c full es ad sz cs hc hf hm (fun h => ⟨(ha h).1, hI _ (ha h).2⟩) hl (fun i x j y hi hj => ?_) ho (fun i x j y hi hj => ih i x j y hi hj (fun _ _ h => h))
  have hp : 0 < es.length := by have := (List.getElem?_eq_some_iff.1 hi).1; omega
  rw [World.cell?_of_block (w := w) (w' := w') (by rw [add_block]; exact hw _ (ha hp).2)]
  exact hr i x j y hi hj
 | bsl id a n c h => intro M' hM; exact .bsl id a n c (hM _ _ h)
 | nilp => intro M' _; exact .nilp
 | ptr id off b h => intro M' hM; exact .ptr id off b (hM _ _ h)
 | eptr id idx sz foff g n c h => intro M' hM; exact .eptr id idx sz foff g n c (hM _ _ h)
 | cptr ad cells cs hi hr ho hv ih =>
  intro M' _
  refine .cptr ad cells cs (hI _ hi) (fun j y hj => ?_) ho (fun j y hj => ih j y hj (fun _ _ h => h))
  rw [World.cell?_of_block (w := w) (w' := w') (by rw [add_block]; exact hw _ hi)]
  exact hr j y hj
 | nilf => intro M' _; exact .nilf
 | fn f vs cs hs h ih => intro M' hM; exact .fn f vs cs hs (fun i v c hv hc => ih i v c hv hc hM)
 | agg vs cs hs ho h ih => intro M' hM; exact .agg vs cs hs ho (fun i v c hv hc => ih i v c hv hc hM)
 | tup vs cs hs h ih => intro M' hM; exact .tup vs cs hs (fun i v c hv hc => ih i v c hv hc hM)
 | junk v => intro M' _; exact .junk v
structure Keeps (S : Nat → Prop) (w w' : World) : Prop where
 os : w'.os = w.os
 tape : w'.tape = w.tape
 output : w'.output = w.output
 size : w.heap.size ≤ w'.heap.size
 block : ∀ k, k < w.heap.size → ¬ S k → w'.heap[k]? = w.heap[k]?
theorem Keeps.refl (S : Nat → Prop) (w : World) : Keeps S w w := ⟨rfl, rfl, rfl, Nat.le_refl _, fun _ _ _ => rfl⟩
theorem Keeps.below {S : Nat → Prop} {w w' : World} (hS : ∀ b, ¬ S b) (h : Keeps S w w') : Go.RowKit.Below w.heap.size w w' := ⟨h.os, h.tape, h.output, h.size, fun k hk => h.block k hk (hS k)⟩
theorem Keeps.trans {S T : Nat → Prop} {a b c : World} (h : Keeps S a b) (k : Keeps T b c) (hT : ∀ i, T i → S i ∨ a.heap.size ≤ i) : Keeps S a c :=
 ⟨k.os.trans h.os, k.tape.trans h.tape, k.output.trans h.output, Nat.le_trans h.size k.size, fun i hi hS => (k.block i (Nat.lt_of_lt_of_le hi h.size) (fun ht => (hT i ht).elim hS (fun h2 => by omega))).trans (h.block i hi hS)⟩
def Chunks (Im : Nat → Prop) (w : World) (sz : Nat) (xs : List Value) (es : List (List AV)) : Prop :=
 (∀ (i : Nat) (x : List AV), es[i]? = some x → x.length = sz) ∧ (∀ u ∈ xs, u.oneCell' = true) ∧ ∀ (i : Nat) (x : List AV) (j : Nat) (y : AV), es[i]? = some x → x[j]? = some y → ∃ u, xs[i * sz + j]? = some u ∧ R Im w (fun _ => none) u y
def RO (Im : Nat → Prop) (w : World) (M : Nat → Option Value) (id : Nat) : HO → Prop
 | .un => M id = none
 | .dead => True
 | .box cs => ∃ b vs ty, M id = some (.pointer (some ⟨b, 0, none⟩)) ∧ w.heap[b]? = some (.cells vs ty (0, 0)) ∧ vs.size = cs.length ∧ (∀ v ∈ vs, v.oneCell' = true) ∧ ∀ (i : Nat) v c, vs[i]? = some v → cs[i]? = some c → R Im w M v c
 | .ibox cs => ∃ b, M id = some (.pointer (some ⟨b, 0, none⟩)) ∧ R Im w (fun _ => none) (.pointer (some ⟨b, 0, none⟩)) (.cptr cs)
 | .arr e sz es => ∃ v xs, M id = some v ∧ w.ownsRow 0 e sz v es.length xs ∧ Chunks Im w sz xs es
 | .imm es => ∃ v, M id = some v ∧ R Im w (fun _ => none) v (.sl false es)
 | .iter s p => ∃ b, M id = some (.pointer (some ⟨b, 0, none⟩)) ∧ w.heap[b]? = some (.stringIter s p)
def ownB (h : List HO) (M : Nat → Option Value) (id : Nat) : Option Nat :=
 match h[id]?, M id with
 | some (.box _), some (.pointer (some a)) => some a.block
 | some (.arr _ _ _), some v => v.ownBlock
 | some (.iter _ _), some (.pointer (some a)) => some a.block
 | _, _ => none
structure Cx where
 w0 : World
 Im0 : Nat → Prop
 S : Nat → Prop
 M0 : Nat → Option Value
structure FRx (cx : Cx) (Im : Nat → Prop) (M : Nat → Option Value) (st : St) (a : Act) (w : World) : Prop where
 kp : Keeps cx.S cx.w0 w
 im0 : ∀ b, cx.Im0 b → Im b
 im1 : ∀ b, Im b → cx.Im0 b ∨ cx.S b ∨ cx.w0.heap.size ≤ b
 imlt : ∀ b, Im b → b < w.heap.size
 tl : a.tmps.size = st.tmps.length
 tm : ∀ (i : Nat) x, st.tmps[i]? = some x → ∃ v, a.tmps[i]? = some v ∧ R Im w M v x
 ob : ∀ (i : Nat) o, st.heap[i]? = some o → RO Im w M i o
 out : ∀ i, st.heap.length ≤ i → M i = none
 own : ∀ (i j : Nat) b, i ≠ j → ownB st.heap M i = some b → ownB st.heap M j ≠ some b
 sep : ∀ (i : Nat) b, ownB st.heap M i = some b → ¬ Im b ∧ (cx.S b ∨ cx.w0.heap.size ≤ b) ∧ b < w.heap.size
 mm : ∀ i, i < st.k → M i = cx.M0 i
 df : a.defers = []
def FR (cx : Cx) (st : St) (a : Act) (w : World) : Prop := ∃ Im M, FRx cx Im M st a w
end Go.Proofs.YtodfkdnkgedgeaaT
