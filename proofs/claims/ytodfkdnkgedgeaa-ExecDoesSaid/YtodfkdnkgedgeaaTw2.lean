/- Walks over the program's functions, on values without memory, and what they come to. No condition. -/
import Derived.Test.YtodfkdnkgedgeaaTw1
set_option linter.unusedVariables false
set_option linter.unusedSimpArgs false
namespace Go.Proofs.YtodfkdnkgedgeaaT
open Go
def lim : Nat := 140737488355328
def lim2 : Nat := 16777216
def ofLeaf : Value → AV
 | .int k n => .int k n
 | .bool b => .bool b
 | .string s => .str s
 | .slice none 0 0 => .nils
 | .pointer none => .nilp
 | .nilFunc => .nilf
 | _ => .junk
def ofVal : Value → AV
 | .agg cs => if cs.all (·.oneCell') then .agg (cs.toList.map ofLeaf) else .junk
 | v => ofLeaf v
def ev (st : St) : Operand → AV
 | .tmp t => st.tmps.getD t .junk
 | .const v => ofVal v
 | .func f => .fn f []
 | .global _ => .junk
def AV.leaf : AV → Bool
 | .agg _ | .tup _ | .junk => false
 | _ => true
def AV.solid : AV → Bool
 | .tup _ | .junk => false
 | _ => true
def AV.cells : AV → List AV
 | .agg cs => cs
 | x => [x]
def AV.scalar : AV → Bool
 | .int _ _ | .bool _ | .str _ | .nilp | .nilf | .nils => true
 | _ => false
def AV.scalars : AV → Bool
 | .agg cs => cs.all AV.scalar
 | .tup cs => cs.all AV.scalar
 | x => x.scalar
def put (st : St) (d : Option Nat) (x : AV) : St :=
 match d with
 | some t => { st with tmps := st.tmps.set t x }
 | none => st
def hset (st : St) (id : Nat) (o : HO) : St := { st with heap := st.heap.set id o }
mutual
def frz (h : List HO) : AV → AV
 | .bsl id => match h[id]? with
  | some (.arr _ _ es) => .sl false es
  | some (.imm es) => .sl false es
  | _ => .junk
 | .ptr id off => match h[id]? with
  | some (.ibox cs) => .cptr (cs.drop off)
  | _ => .junk
 | .eptr _ _ _ _ => .junk
 | .fn f cs => .fn f (frzL h cs)
 | .agg cs => .agg (frzL h cs)
 | .tup cs => .tup (frzL h cs)
 | .int k n => .int k n
 | .bool b => .bool b
 | .str s => .str s
 | .nils => .nils
 | .sl f es => .sl f es
 | .nilp => .nilp
 | .cptr cs => .cptr cs
 | .nilf => .nilf
 | .junk => .junk
def frzL (h : List HO) : List AV → List AV
 | [] => []
 | x :: l => frz h x :: frzL h l
end
mutual
def names : AV → List Nat
 | .bsl id => [id]
 | .fn _ cs => namesL cs
 | .agg cs => namesL cs
 | .tup cs => namesL cs
 | _ => []
def namesL : List AV → List Nat
 | [] => []
 | x :: l => names x ++ namesL l
end
def fix (h : List HO) (id : Nat) : List HO :=
 match h[id]? with
 | some (.arr _ _ es) => h.set id (.imm es)
 | _ => h
def frzH (h : List HO) (x : AV) : List HO := (names x).foldl fix h
def frzHL (h : List HO) (l : List AV) : List HO := (namesL l).foldl fix h
mutual
def le : AV → AV → Prop
 | _, .junk => True
 | .nils, .nils => True
 | .nils, .sl _ es => es = []
 | .sl f es, .sl g fs => (g = true → f = true) ∧ es = fs
 | .agg a, .agg b => leL a b
 | .tup a, .tup b => leL a b
 | .fn f a, .fn g b => f = g ∧ leL a b
 | .int k n, .int l m => k = l ∧ n = m
 | .bool b, .bool c => b = c
 | .str s, .str t => s = t
 | .bsl i, .bsl j => i = j
 | .nilp, .nilp => True
 | .nilf, .nilf => True
 | .ptr i o, .ptr j p => i = j ∧ o = p
 | .eptr i o s f, .eptr j p t g => i = j ∧ o = p ∧ s = t ∧ f = g
 | .cptr a, .cptr b => a = b
 | _, _ => False
def leL : List AV → List AV → Prop
 | [], [] => True
 | x :: a, y :: b => le x y ∧ leL a b
 | _, _ => False
end
def isAgg (P : Program) (t : TypeId) : Bool :=
 match P.underlying t with
 | some (.struct _) => true
 | some (.array _ _) => true
 | _ => false
def fieldOf (P : Program) (s : TypeId) (f : Nat) : Option (Nat × Bool × Nat) :=
 match P.underlying s with
 | some (.struct fs) => (fs[f]?).bind fun x => if (P.underlying x.type).isSome = true then some (x.offset, isAgg P x.type, P.cellsOf x.type) else none
 | _ => none
def elemOf (P : Program) (t : TypeId) : Option TypeId :=
 match P.underlying t with
 | some (.slice e) => some e
 | _ => none
def arrOf (P : Program) (t : TypeId) : Option (Nat × TypeId) :=
 match P.underlying t with
 | some (.array n e) => if (P.underlying e).isSome = true then some (n, e) else none
 | _ => none
def zeroOf (P : Program) (t : TypeId) : Option AV := ((P.info? t).bind (·.zero)).map ofVal
def fieldsOk (P : Program) (t : TypeId) : Bool :=
 match P.underlying t with
 | some (.struct fs) => fs.all fun f => (P.info? f.type).isSome
 | _ => false
def elemOk (P : Program) (e : TypeId) : Prop := 0 < P.cellsOf e ∧ ∃ z, zeroOf P e = some z ∧ z.solid = true ∧ z.cells.length = P.cellsOf e
def splice {α : Type} (l : List α) (off : Nat) (cs : List α) : List α := l.take off ++ (cs ++ l.drop (off + cs.length))
def takeA (agg : Bool) (n : Nat) (cs : List AV) (K : AV → Prop) : Prop :=
 if agg = true then 0 < n ∧ n ≤ cs.length ∧ K (.agg (cs.take n))
 else match cs with
  | c :: _ => K c
  | [] => False
def vNew (st : St) (d : Option Nat) (o : HO) (x : Nat → AV) (K : St → Prop) : Prop :=
 match d with
 | some t => t < st.tmps.length ∧ st.heap[st.k + t]? = some .un ∧ K (put (hset st (st.k + t) o) (some t) (x (st.k + t)))
 | none => False
def fillA (P : Program) (t : TypeId) : List AV → List (Nat × AV) → (List AV → Prop) → Prop
 | cs, [], K => K cs
 | cs, (i, x) :: r, K =>
  match fieldOf P t i with
  | some (off, _, n) => x.solid = true ∧ x.cells.length = n ∧ off + n ≤ cs.length ∧ fillA P t (splice cs off x.cells) r K
  | none => False
def fillR (n : Nat) : List AV → List (Nat × AV) → (List AV → Prop) → Prop
 | cs, [], K => K cs
 | cs, (i, x) :: r, K => x.solid = true ∧ x.cells.length = n ∧ i * n + n ≤ cs.length ∧ fillR n (splice cs (i * n) x.cells) r K
def vLoad (P : Program) (t : TypeId) (st : St) (x : AV) (K : AV → Prop) : Prop :=
 (P.underlying t).isSome = true ∧ match x with
 | .ptr id off => match st.heap[id]? with
  | some (.box cs) => takeA (isAgg P t) (P.cellsOf t) (cs.drop off) K
  | some (.ibox cs) => takeA (isAgg P t) (P.cellsOf t) (cs.drop off) K
  | _ => False
 | .cptr cs => takeA (isAgg P t) (P.cellsOf t) cs K
 | .eptr id idx sz foff => match st.heap[id]? with
  | some (.arr _ sz' es) => sz' = sz ∧ idx < es.length ∧ takeA (isAgg P t) (P.cellsOf t) ((es.getD idx []).drop foff) K
  | some (.imm es) => idx < es.length ∧ (es.getD idx []).length = sz ∧ takeA (isAgg P t) (P.cellsOf t) ((es.getD idx []).drop foff) K
  | _ => False
 | _ => False
mutual
def AV.pure : AV → Bool
 | .bsl _ => false
 | .ptr _ _ => false
 | .eptr _ _ _ _ => false
 | .fn _ cs => AV.pures cs
 | .agg cs => AV.pures cs
 | .tup cs => AV.pures cs
 | _ => true
def AV.pures : List AV → Bool
 | [] => true
 | x :: l => x.pure && AV.pures l
end
def vStore (P : Program) (t : TypeId) (st : St) (a x : AV) (K : St → Prop) : Prop :=
 match a with
 | .ptr id off => match st.heap[id]? with
  | some (.box cs) => x.solid = true ∧ (x.cells.all AV.leaf) = true ∧ x.cells.length = P.cellsOf t ∧ 0 < P.cellsOf t ∧ off + x.cells.length ≤ cs.length ∧ K (hset st id (.box (splice cs off x.cells)))
  | _ => False
 | .eptr id idx sz foff => match st.heap[id]? with
  | some (.arr e sz' es) => sz' = sz ∧ idx < es.length ∧ x.solid = true ∧ (x.cells.all AV.leaf) = true ∧ AV.pures x.cells = true ∧ x.cells.length = P.cellsOf t ∧ 0 < P.cellsOf t ∧ foff + x.cells.length ≤ sz ∧
    K (hset st id (.arr e sz (es.set idx (splice (es.getD idx []) foff x.cells))))
  | _ => False
 | _ => False
def elems (h : List HO) : AV → Option (List (List AV))
 | .nils => some []
 | .sl _ es => some es
 | .bsl id => match h[id]? with
  | some (.arr _ _ es) => some es
  | some (.imm es) => some es
  | _ => none
 | _ => none
def isB (P : Program) (t : TypeId) : Bool :=
 match P.underlying t with
 | some .bool => true
 | _ => false
def eqL (P : Program) (t : TypeId) : Option (List (Nat × Bool)) :=
 match P.underlying t with
 | some (.struct fs) => if ((fs.toList.all fun f => f.name != "_" && P.plainKey f.type && (match P.underlying f.type with | some (.int _) => true | some .bool => true | _ => false)) && !P.stoodInHeld t && !P.eqGuardType P.depth t) = true then some (fs.toList.map fun f => (f.offset, isB P f.type)) else none
 | _ => none
def eqv : List (Nat × Bool) → List AV → List AV → Option Bool
 | [], _, _ => some true
 | (o, false) :: l, a, b => match a.getD o .junk, b.getD o .junk with
  | .int k m, .int k' n => if k = k' then (eqv l a b).map (decide (m = n) && ·) else none
  | _, _ => none
 | (o, true) :: l, a, b => match a.getD o .junk, b.getD o .junk with
  | .bool m, .bool n => (eqv l a b).map ((m == n) && ·)
  | _, _ => none
def AV.nilq : AV → Option Bool
 | .nilp => some true
 | .ptr _ _ => some false
 | .eptr _ _ _ _ => some false
 | .cptr _ => some false
 | _ => none
def isPtr (P : Program) (t : TypeId) : Bool :=
 match P.underlying t with
 | some (.pointer _) => true
 | _ => false
def vBin (P : Program) (op : BinOp) (t : TypeId) (st : St) (x y : AV) (K : AV → Prop) : Prop :=
 match x, y with
 | .int k a, .int k' b =>
  match op with
  | .shl => 0 ≤ b ∧ K (.int k (k.wrap (a * 2 ^ (min b.toNat k.bits))))
  | .shr => 0 ≤ b ∧ K (.int k (a.fdiv (2 ^ (min b.toNat k.bits))))
  | .add => k = k' ∧ K (.int k (k.wrap (a + b)))
  | .sub => k = k' ∧ K (.int k (k.wrap (a - b)))
  | .mul => k = k' ∧ K (.int k (k.wrap (a * b)))
  | .quo => k = k' ∧ b ≠ 0 ∧ K (.int k (k.wrap (a.tdiv b)))
  | .rem => k = k' ∧ b ≠ 0 ∧ K (.int k (a.tmod b))
  | .and => k = k' ∧ K (.int k (k.wrap (BitVec.ofInt k.bits a &&& BitVec.ofInt k.bits b).toNat))
  | .or => k = k' ∧ K (.int k (k.wrap (BitVec.ofInt k.bits a ||| BitVec.ofInt k.bits b).toNat))
  | .xor => k = k' ∧ K (.int k (k.wrap (BitVec.ofInt k.bits a ^^^ BitVec.ofInt k.bits b).toNat))
  | .andNot => k = k' ∧ K (.int k (k.wrap (BitVec.ofInt k.bits a &&& ~~~ (BitVec.ofInt k.bits b)).toNat))
  | .eql => k = k' ∧ K (.bool (decide (a = b)))
  | .neq => k = k' ∧ K (.bool (!decide (a = b)))
  | .lss => k = k' ∧ K (.bool (decide (a < b)))
  | .leq => k = k' ∧ K (.bool (decide (a ≤ b)))
  | .gtr => k = k' ∧ K (.bool (decide (a > b)))
  | .geq => k = k' ∧ K (.bool (decide (a ≥ b)))
 | .bool a, .bool b =>
  match op, P.underlying t with
  | .eql, some .bool => K (.bool (a == b))
  | .neq, some .bool => K (.bool (a != b))
  | _, _ => False
 | .str a, .str b =>
  match op with
  | .add => a.size + b.size ≤ lim ∧ K (.str (a ++ b))
  | .eql => K (.bool (decide (a = b)))
  | .neq => K (.bool (!decide (a = b)))
  | _ => False
 | .agg a, .agg b =>
  match op, (eqL P t).bind fun l => eqv l a b with
  | .eql, some r => K (.bool r)
  | .neq, some r => K (.bool (!r))
  | _, _ => False
 | a, .nils =>
  match op, elemOf P t, elems st.heap a with
  | .eql, some _, some es => if es = [] then ∀ b, (a = .nils → b = true) → K (.bool b) else K (.bool false)
  | .neq, some _, some es => if es = [] then ∀ b, (a = .nils → b = false) → K (.bool b) else K (.bool true)
  | _, _, _ => False
 | a, .nilp => isPtr P t = true ∧
  match op, AV.nilq a with
  | .eql, some b => K (.bool b)
  | .neq, some b => K (.bool !b)
  | _, _ => False
 | _, _ => False
mutual
def mp (f : Nat → Nat) : AV → AV
 | .bsl i => .bsl (f i)
 | .ptr i o => .ptr (f i) o
 | .eptr i a b c => .eptr (f i) a b c
 | .fn g cs => .fn g (mpL f cs)
 | .agg cs => .agg (mpL f cs)
 | .tup cs => .tup (mpL f cs)
 | .int k n => .int k n
 | .bool b => .bool b
 | .str s => .str s
 | .nils => .nils
 | .sl f es => .sl f es
 | .nilp => .nilp
 | .cptr cs => .cptr cs
 | .nilf => .nilf
 | .junk => .junk
def mpL (f : Nat → Nat) : List AV → List AV
 | [] => []
 | x :: l => mp f x :: mpL f l
end
def mpO (f : Nat → Nat) : HO → HO
 | .box cs => .box (mpL f cs)
 | o => o
mutual
def vl (h : List HO) : AV → AV
 | .bsl id => match h[id]? with
  | some (.imm es) => .sl false es
  | _ => .bsl id
 | .ptr id off => match h[id]? with
  | some (.ibox cs) => .cptr (cs.drop off)
  | _ => .ptr id off
 | .eptr i a b c => .eptr i a b c
 | .fn g cs => .fn g (vlL h cs)
 | .agg cs => .agg (vlL h cs)
 | .tup cs => .tup (vlL h cs)
 | .int k n => .int k n
 | .bool b => .bool b
 | .str s => .str s
 | .nils => .nils
 | .sl f es => .sl f es
 | .nilp => .nilp
 | .cptr cs => .cptr cs
 | .nilf => .nilf
 | .junk => .junk
def vlL (h : List HO) : List AV → List AV
 | [] => []
 | x :: l => vl h x :: vlL h l
end
def matchH (h : List HO) (f : Nat → Nat) : List Nat → List HO → Prop
 | [], [] => True
 | i :: is, o :: os => h[i]? = some (mpO f o) ∧ matchH h f is os
 | _, _ => False
def freshH (h : List HO) (k : Nat) : List Nat → Prop
 | [] => True
 | i :: is => h[i]? = some .un ∧ k ≤ i ∧ freshH h k is
def setAll (f : Nat → Nat) : List Nat → List HO → List HO → List HO
 | i :: is, o :: os, h => setAll f is os (h.set i (mpO f o))
 | _, _, h => h
def nodupB : List Nat → Bool
 | [] => true
 | i :: is => !is.contains i && nodupB is
def Apart (h : List HO) (M : Nat → Option Value) : Prop := ∀ (i j : Nat) b, i ≠ j → ownB h M i = some b → ownB h M j ≠ some b
def Enters (P : Program) (g : FuncId) : Prop := ∃ fn, P.funcs[g]? = some fn ∧ (fn.name == "runtime.NumGoroutine") = false ∧ fn.body.isSome = true
def RetH (P : Program) (g : FuncId) (args : List AV) (hin : List HO) (res : AV) (hout : List HO) : Prop := Enters P g ∧
 ∀ (w : World) (Im : Nat → Prop) (M : Nat → Option Value) (vs : Array Value), (∀ b, Im b → b < w.heap.size) →
  vs.size = args.length → (∀ (i : Nat) v x, vs[i]? = some v → args[i]? = some x → R Im w M v x) →
  (∀ (i : Nat) o, hin[i]? = some o → RO Im w M i o) → (∀ i, hin.length ≤ i → M i = none) → Apart hin M → (∀ i b, ownB hin M i = some b → ¬ Im b ∧ b < w.heap.size) →
  Calls P g vs w fun e w' => ∃ v Im' M', e = .returned v ∧ Keeps (fun b => ∃ i, ownB hin M i = some b) w w' ∧ (∀ b, Im b → Im' b) ∧ (∀ b, Im' b → Im b ∨ (∃ i, ownB hin M i = some b) ∨ w.heap.size ≤ b) ∧ (∀ b, Im' b → b < w'.heap.size) ∧
   R Im' w' M' v res ∧ (∀ (i : Nat) o, hout[i]? = some o → RO Im' w' M' i o) ∧ (∀ i, hout.length ≤ i → M' i = none) ∧ Apart hout M' ∧
   (∀ i b, ownB hout M' i = some b → ¬ Im' b ∧ ((∃ i, ownB hin M i = some b) ∨ w.heap.size ≤ b) ∧ b < w'.heap.size) ∧ ∀ i, i < hin.length → M' i = M i
def Ret (P : Program) (g : FuncId) (args : List AV) (res : AV) : Prop := RetH P g args [] res []
inductive vCall (P : Program) (g : FuncId) (args : List AV) (d : Option Nat) (st : St) (K : St → Prop) : Prop
 | sc (args' : List AV) (res : AV) (h : Ret P g args' res) (ha : leL (frzL st.heap args) args') (hs : res.scalars = true) (hk : K (put st d res))
 | pu (args' : List AV) (res : AV) (h : Ret P g args' res) (ha : leL (frzL st.heap args) args') (hk : K (put { st with heap := frzHL st.heap args } d res))
 | ar (args' : List AV) (e sz : Nat) (es : List (List AV)) (t : Nat) (hd : d = some t) (ht : t < st.tmps.length) (h : RetH P g args' [] (.bsl 0) [.arr e sz es]) (ha : leL (frzL st.heap args) args')
   (hu : st.heap[st.k + t]? = some .un) (hk : K (put (hset { st with heap := frzHL st.heap args } (st.k + t) (.arr e sz es)) (some t) (.bsl (st.k + t))))
 | io (ids news : List Nat) (args' : List AV) (res : AV) (hin hout : List HO) (h : RetH P g args' hin res hout) (ha : leL (vlL st.heap args) (mpL (fun i => ids.getD i st.heap.length) args'))
   (hi : matchH st.heap (fun i => ids.getD i st.heap.length) ids hin) (hn : freshH st.heap st.k news) (hd : nodupB (ids ++ news) = true) (hl : hout.length = ids.length + news.length)
   (hk : K (put ⟨st.tmps, setAll (fun i => (ids ++ news).getD i st.heap.length) (ids ++ news) hout st.heap, st.k⟩ d (mp (fun i => (ids ++ news).getD i st.heap.length) res)))
def vBuiltin (P : Program) (b : Builtin) (ts : List TypeId) (args : List AV) (d : Option Nat) (st : St) (K : St → Prop) : Prop :=
 match b, ts, args with
 | .len, [t], [.str s] => P.underlying t = some .string ∧ K (put st d (.int .i64 s.size))
 | .len, [t], [x] => match elemOf P t, elems st.heap x with
  | some _, some es => K (put st d (.int .i64 es.length))
  | _, _ => False
 | .max, _, [.int k x, .int k' y] => k = k' ∧ K (put st d (.int k (max x y)))
 | .min, _, [.int k x, .int k' y] => k = k' ∧ K (put st d (.int k (min x y)))
 | .append, [ty, ty'], [s, x] =>
  match elemOf P ty, elems st.heap x, d with
  | some e, some xs, some t =>
   ty' = ty ∧ t < st.tmps.length ∧ st.heap[st.k + t]? = some .un ∧ elemOk P e ∧ (∀ y ∈ xs, y.length = P.cellsOf e) ∧
   (match s with
    | .nils => xs.length ≤ lim ∧ xs.length * P.bytesOf e ≤ lim ∧ K (put (hset st (st.k + t) (.arr e (P.cellsOf e) xs)) (some t) (.bsl (st.k + t)))
    | .bsl id => match st.heap[id]? with
      | some (.arr e' sz es) => e' = e ∧ sz = P.cellsOf e ∧ es.length + xs.length ≤ lim ∧ (es.length + xs.length) * P.bytesOf e ≤ lim ∧
         K (put (hset (hset st id .dead) (st.k + t) (.arr e sz (es ++ xs))) (some t) (.bsl (st.k + t)))
      | _ => False
    | .sl true es => xs ≠ [] ∧ (∀ y ∈ es, y.length = P.cellsOf e) ∧ es.length + xs.length ≤ lim ∧ (es.length + xs.length) * P.bytesOf e ≤ lim ∧
         K (put (hset st (st.k + t) (.arr e (P.cellsOf e) (es ++ xs))) (some t) (.bsl (st.k + t)))
    | _ => False)
  | some e, none, some t =>
   (match s, x, zeroOf P e with
    | .nils, .int _ n, some z => P.underlying ty' = some (.int .i64) ∧ t < st.tmps.length ∧ st.heap[st.k + t]? = some .un ∧ elemOk P e ∧ 0 < n ∧ n ≤ lim ∧ n * P.bytesOf e ≤ lim ∧
        K (put (hset st (st.k + t) (.arr e (P.cellsOf e) (List.replicate n.toNat z.cells))) (some t) (.bsl (st.k + t)))
    | _, _, _ => False)
  | _, _, _ => False
 | .cap, [t], [.nils] => (elemOf P t).isSome = true ∧ K (put st d (.int .i64 0))
 | _, _, _ => False
def intAt (st : St) (d : Int) : Option Operand → AV
 | some x => ev st x
 | none => .int .i64 d
def vSlice (P : Program) (t : TypeId) (st : St) (x : AV) (lo hi mx : Option Operand) (K : St → AV → Prop) : Prop :=
 match x with
 | .str s => match intAt st 0 lo, intAt st s.size hi, mx with
  | .int _ l, .int _ h, none => P.underlying t = some .string ∧ 0 ≤ l ∧ l ≤ h ∧ h ≤ s.size ∧ K st (.str (s.extract l.toNat h.toNat))
  | _, _, _ => False
 | .nils => match elemOf P t, intAt st 0 lo, intAt st 0 hi, mx with
  | some e, .int _ l, .int _ h, none => l = 0 ∧ h = 0 ∧ 0 < P.cellsOf e ∧ K st .nils
  | _, _, _, _ => False
 | x => match elemOf P t, elems [] (frz st.heap x) with
  | some e, some es => (∀ y ∈ es, y.length = P.cellsOf e) ∧ 0 < P.cellsOf e ∧ match intAt st 0 lo, intAt st es.length hi, mx.map (ev st) with
   | .int _ l, .int _ h, none => 0 ≤ l ∧ l ≤ h ∧ h ≤ es.length ∧ K { st with heap := frzH st.heap x } (.sl false ((es.take h.toNat).drop l.toNat))
   | .int _ l, .int _ h, some (.int _ m) => 0 ≤ l ∧ l ≤ h ∧ h ≤ m ∧ m ≤ es.length ∧ hi ≠ none ∧ K { st with heap := frzH st.heap x } (.sl (decide (h = m)) ((es.take h.toNat).drop l.toNat))
   | _, _, _ => False
  | _, _ => False
def ownCut (st : St) (x : AV) (lo hi mx : Option Operand) (d : Option Nat) : Option (Nat × TypeId × Nat × Nat) :=
 match x, lo, hi, mx, d with
 | .bsl id, none, some h, none, some d => match ev st h, st.heap[id]? with
  | .int .i64 0, some (.arr e sz _) => some (id, e, sz, d)
  | _, _ => none
 | _, _, _, _, _ => none
def vCut (P : Program) (t : TypeId) (st : St) (x : AV) (lo hi mx : Option Operand) (d : Option Nat) (K : St → Prop) : Prop :=
 match x, lo, hi, mx, d with
 | .bsl id, none, some h, none, some d => match ev st h, st.heap[id]? with
  | .int .i64 n, some (.arr e sz es) => 0 ≤ n ∧ n ≤ es.length ∧ elemOf P t = some e ∧ 0 < P.cellsOf e ∧ d < st.tmps.length ∧ st.heap[st.k + d]? = some .un ∧ K (put (hset (hset st id .dead) (st.k + d) (.arr e sz (es.take n.toNat))) (some d) (.bsl (st.k + d)))
  | _, _ => False
 | _, _, _, _, _ => False
def dense : Nat → List Nat → Bool
 | _, [] => true
 | i, j :: l => (i == j) && dense (i + 1) l
def fills (n : Nat) : List AV → Prop
 | [] => True
 | x :: l => (x.solid = true ∧ (x.cells.all AV.leaf) = true ∧ x.cells.length = n) ∧ fills n l
def vOp (P : Program) (o : Oper) (st : St) (K : St → Prop) : Prop :=
 match o.op with
 | .move x => K (put st o.dst (ev st x))
 | .assign x => K (put st o.dst (ev st x))
 | .pick c a b => match ev st c with
  | .bool t => K (put st o.dst (if t = true then ev st a else ev st b))
  | _ => False
 | .alloc e => match zeroOf P e with
  | some z => z.solid = true ∧ vNew st o.dst (.box z.cells) (fun id => .ptr id 0) K
  | none => False
 | .box _ x => (ev st x).solid = true ∧ vNew st o.dst (.box (ev st x).cells) (fun id => .ptr id 0) K
 | .build t parts => match zeroOf P t, arrOf P t with
  | some (.agg z), none => fieldsOk P t = true ∧ fillA P t z (parts.toList.map fun p => (p.1, ev st p.2)) fun cs => K (put st o.dst (.agg cs))
  | some (.agg z), some (_, e) => (P.info? e).isSome = true ∧ fillR (P.cellsOf e) z (parts.toList.map fun p => (p.1, ev st p.2)) fun cs => K (put st o.dst (.agg cs))
  | _, _ => False
 | .buildSlice t n parts => match elemOf P t with
  | some e =>
   dense 0 (parts.toList.map (·.1)) = true ∧ parts.toList.length = n ∧ n * P.cellsOf e ≤ lim2 ∧ fills (P.cellsOf e) (parts.toList.map fun p => ev st p.2) ∧ elemOk P e ∧
   vNew { st with heap := frzHL st.heap (parts.toList.map fun p => ev st p.2) } o.dst (.arr e (P.cellsOf e) ((parts.toList.map fun p => ev st p.2).map fun x => frzL st.heap x.cells)) (fun id => .bsl id) K
  | none => False
 | .load t a => vLoad P t st (ev st a) fun x => K (put st o.dst x)
 | .store t a x => vStore P t st (ev st a) (ev st x) fun st' => K (put st' o.dst .junk)
 | .nilCheck x => match ev st x with
  | .ptr i f => K (put st o.dst (.ptr i f))
  | .eptr i j s f => K (put st o.dst (.eptr i j s f))
  | .cptr cs => K (put st o.dst (.cptr cs))
  | .fn f cs => K (put st o.dst (.fn f cs))
  | _ => False
 | .binOp op t x y _ => vBin P op t st (ev st x) (ev st y) fun r => K (put st o.dst r)
 | .unOp op _ x => match op, ev st x with
  | .not, .bool b => K (put st o.dst (.bool !b))
  | .neg, .int k n => K (put st o.dst (.int k (k.wrap (0 - n))))
  | _, _ => False
 | .convert s t x => match P.underlying s, P.underlying t, ev st x with
  | some _, some (.int k), .int _ n => K (put st o.dst (.int k (k.wrap n)))
  | some _, some .string, .str s => K (put st o.dst (.str s))
  | some (.slice e), some .string, y => P.underlying e = some (.int .u8) ∧ ∃ l : List UInt8, elems st.heap y = some (l.map fun b => [.int .u8 (b.toNat : Int)]) ∧ K (put st o.dst (.str ⟨l.toArray⟩))
  | _, _, _ => False
 | .makeFunc (.func f) first caps => first = #[] ∧ K (put st o.dst (.fn f (caps.toList.map (ev st))))
 | .slice t x lo hi mx => (match ownCut st (ev st x) lo hi mx o.dst with
  | some (id, e, sz, d) => (elemOf P t = some e ∧ 0 < P.cellsOf e) ∧ d < st.tmps.length ∧ st.heap[st.k + d]? = some .un ∧ K (put (hset (hset st id .dead) (st.k + d) (.arr e sz [])) (some d) (.bsl (st.k + d)))
  | none => vSlice P t st (ev st x) lo hi mx (fun st' r => K (put st' o.dst r))) ∨ vCut P t st (ev st x) lo hi mx o.dst K
 | .range t x => match P.underlying t, ev st x with
  | some .string, .str s => vNew st o.dst (.iter s 0) (fun id => .ptr id 0) K
  | _, _ => False
 | .next it true => match ev st it with
  | .ptr id 0 => match st.heap[id]? with
   | some (.iter s p) => if p < s.size then K (put (hset st id (.iter s (p + (Utf8.decode s p).2))) o.dst (.tup [.bool true, .int .i64 p, .int .i32 (Utf8.decode s p).1])) else K (put st o.dst (.tup [.bool false]))
   | _ => False
  | _ => False
 | .makeSlice t l c => match elemOf P t, ev st l, ev st c with
  | some e, .int _ n, .int _ m => match zeroOf P e with
   | some z => n = m ∧ 0 ≤ n ∧ n ≤ lim2 ∧ n * P.bytesOf e ≤ lim ∧ elemOk P e ∧ vNew st o.dst (.arr e (P.cellsOf e) (List.replicate n.toNat z.cells)) (fun id => .bsl id) K
   | none => False
  | _, _, _ => False
 | .fieldAddr s x f => match fieldOf P s f, ev st x with
  | some (off, _, n), .ptr id o' => 0 < n ∧ K (put st o.dst (.ptr id (o' + off)))
  | some (off, _, n), .cptr cs => 0 < n ∧ off < cs.length ∧ K (put st o.dst (.cptr (cs.drop off)))
  | some (off, _, n), .eptr id i sz fo => 0 < n ∧ K (put st o.dst (.eptr id i sz (fo + off)))
  | _, _ => False
 | .field t x f => match fieldOf P t f, ev st x with
  | some (off, ag, n), .agg cs => takeA ag n (cs.drop off) fun r => K (put st o.dst r)
  | _, _ => False
 | .indexAddr t x i => match elemOf P t, ev st x, ev st i with
  | some e, .bsl id, .int _ n => match st.heap[id]? with
   | some (.arr _ sz es) => sz = P.cellsOf e ∧ 0 < P.cellsOf e ∧ 0 ≤ n ∧ n < es.length ∧ K (put st o.dst (.eptr id n.toNat sz 0))
   | some (.imm es) => 0 ≤ n ∧ n < es.length ∧ (∀ y ∈ es, y.length = P.cellsOf e) ∧ 0 < P.cellsOf e ∧ K (put st o.dst (.cptr (es.getD n.toNat [])))
   | _ => False
  | some e, .sl _ es, .int _ n => 0 ≤ n ∧ n < es.length ∧ (∀ y ∈ es, y.length = P.cellsOf e) ∧ 0 < P.cellsOf e ∧ K (put st o.dst (.cptr (es.getD n.toNat [])))
  | none, .ptr id p, .int _ n => match arrOf P t with
   | some (len, e) => 0 < P.cellsOf e ∧ 0 ≤ n ∧ n < len ∧ K (put st o.dst (.ptr id (p + n.toNat * P.cellsOf e)))
   | none => False
  | none, .eptr id j sz p, .int _ n => match arrOf P t with
   | some (len, e) => 0 < P.cellsOf e ∧ 0 ≤ n ∧ n < len ∧ K (put st o.dst (.eptr id j sz (p + n.toNat * P.cellsOf e)))
   | none => False
  | none, .cptr cs, .int _ n => match arrOf P t with
   | some (len, e) => 0 < P.cellsOf e ∧ 0 ≤ n ∧ n < len ∧ n.toNat * P.cellsOf e < cs.length ∧ K (put st o.dst (.cptr (cs.drop (n.toNat * P.cellsOf e))))
   | none => False
  | _, _, _ => False
 | .index t x i => match P.underlying t, ev st x, ev st i with
  | some .string, .str s, .int _ n => 0 ≤ n ∧ match s[n.toNat]? with
   | some b => K (put st o.dst (.int .u8 b.toNat))
   | none => False
  | some (.array len e), .agg cs, .int _ n => 0 ≤ n ∧ n < len ∧ (P.underlying e).isSome = true ∧ 0 < P.cellsOf e ∧ takeA (isAgg P e) (P.cellsOf e) (cs.drop (n.toNat * P.cellsOf e)) fun r => K (put st o.dst r)
  | _, _, _ => False
 | .extract x i => match ev st x with
  | .tup cs => match cs[i]? with
   | some c => K (put st o.dst c)
   | none => False
  | _ => False
 | .call c => match c.callee with
  | .builtin b => vBuiltin P b c.argTypes.toList (c.args.toList.map (ev st)) o.dst st K
  | .value f => match ev st f with
   | .fn g caps => vCall P g (c.args.toList.map (ev st) ++ caps) o.dst st K
   | _ => False
  | _ => False
 | _ => False
def vGuard (P : Program) (ops : Array Oper) (o : Oper) (st : St) (K : St → Prop) : Prop :=
 match o.guard with
 | none => vOp P o st K
 | some (j, want) => match (ops[j]?).bind (·.dst) with
  | some t => match st.tmps.getD t .junk with
   | .bool b => if b = want then vOp P o st K else K (put st o.dst (.tup []))
   | .tup [] => K (put st o.dst (.tup []))
   | _ => False
  | none => False
def vOps (P : Program) (ops : Array Oper) : List Oper → St → (St → Prop) → Prop
 | [], st, K => K st
 | o :: r, st, K => vGuard P ops o st fun st' => vOps P ops r st' K
def vRes (P : Program) : List ResultVar → St → (List AV → Prop) → Prop
 | [], _, K => K []
 | .tmp t :: r, st, K => vRes P r st fun l => K (st.tmps.getD t .junk :: l)
 | .cell t ty :: r, st, K => vLoad P ty st (st.tmps.getD t .junk) fun x => vRes P r st fun l => K (x :: l)
def oneRes : List AV → AV
 | [x] => x
 | l => .tup l
def Fin (P : Program) (rs : Array ResultVar) (res : AV) (e : Exit) (st : St) : Prop :=
 (e = .normal ∨ e = .ret) ∧ vRes P rs.toList st fun l => le (frz st.heap (oneRes l)) res
def FinA (P : Program) (rs : Array ResultVar) (e' sz : Nat) (es : List (List AV)) (e : Exit) (st : St) : Prop :=
 (e = .normal ∨ e = .ret) ∧ vRes P rs.toList st fun l => (∃ id, oneRes l = .bsl id ∧ st.heap[id]? = some (.arr e' sz es)) ∨ (oneRes l = .nils ∧ es = [])
def enterSt (n : Nat) (args : List AV) : St := ⟨args ++ List.replicate (n - args.length) .junk, List.replicate n .un, 0⟩
end Go.Proofs.YtodfkdnkgedgeaaT
