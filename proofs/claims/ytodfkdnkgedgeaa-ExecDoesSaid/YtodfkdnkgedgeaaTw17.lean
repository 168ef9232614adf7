/- Walks over the program's functions, on values without memory, and what they come to. No condition. -/
import Derived.Test.YtodfkdnkgedgeaaTw16
set_option linter.unusedVariables false
set_option linter.unusedSimpArgs false
namespace Go.Proofs.YtodfkdnkgedgeaaT
open Go Go.RowKit
variable {st : St} {P : Program} {Q : Exit → St → Prop}
def rdTmp : Operand → List Nat
 | .tmp t => [t]
 | _ => []
def rdOp : Op → Option (List Nat)
 | .move x => some (rdTmp x)
 | .assign x => some (rdTmp x)
 | .pick c x y => some (rdTmp c ++ rdTmp x ++ rdTmp y)
 | .load _ x => some (rdTmp x)
 | .nilCheck x => some (rdTmp x)
 | .binOp _ _ x y _ => some (rdTmp x ++ rdTmp y)
 | .unOp _ _ x => some (rdTmp x)
 | .convert _ _ x => some (rdTmp x)
 | .build _ ps => some (ps.toList.map fun p => rdTmp p.2).flatten
 | .slice _ x lo hi mx => some (rdTmp x ++ ((lo.map rdTmp).getD [] ++ (hi.map rdTmp).getD [] ++ (mx.map rdTmp).getD []))
 | .fieldAddr _ x _ => some (rdTmp x)
 | .field _ x _ => some (rdTmp x)
 | .indexAddr _ x i => some (rdTmp x ++ rdTmp i)
 | .index _ x i => some (rdTmp x ++ rdTmp i)
 | .extract x _ => some (rdTmp x)
 | .call c => match c.callee with
  | .value f => some (rdTmp f ++ (c.args.toList.map rdTmp).flatten)
  | .builtin _ => some (c.args.toList.map rdTmp).flatten
  | _ => none
 | _ => none
def rdAll (ops : Array Oper) (o : Oper) : Option (List Nat) :=
 (rdOp o.op).map fun l => match o.guard with
  | none => l
  | some (j, _) => match (ops[j]?).bind (·.dst) with
   | some t => t :: l
   | none => l
def QG (P : Program) (ops : Array Oper) (o : Oper) (s : St) (x : AV) : Prop :=
 ∀ (t : St) (N : St → Prop), t.heap = s.heap → (∀ n ∈ (rdAll ops o).getD [], t.tmps.getD n .junk = s.tmps.getD n .junk) → N (put t o.dst x) → vGuard P ops o t N
def DQ (P : Program) (ops : Array Oper) : List Oper → St → (St → Prop) → Prop
 | [], s, K => K s
 | o :: r, s, K => ∃ x, QG P ops o s x ∧ DQ P ops r (put s o.dst x) K
def readsB (l : List Oper) : Bool :=
 let n := l.length
 (List.range n).all fun i => match l[i]? with
  | some o => match rdAll l.toArray o, o.dst with
   | some rs, some d => (List.range n).all fun j => match l[j]? with
    | some p => (p.dst != some d || i == j) && (rs.all fun s => p.dst != some s || hasDep o j || hasDep p i)
    | none => true
   | _, _ => false
  | none => true
theorem getD_set_self {l : List AV} {n : Nat} {x : AV} (h : n < l.length) : (l.set n x).getD n .junk = x := by
 rw [List.getD_eq_getElem?_getD, List.getElem?_set_self h]; rfl
theorem getD_set_ne {l : List AV} {m n : Nat} {x : AV} (h : m ≠ n) : (l.set m x).getD n .junk = l.getD n .junk := by
 rw [List.getD_eq_getElem?_getD, List.getElem?_set_ne h, ← List.getD_eq_getElem?_getD]
theorem getD_none {l : List AV} {n : Nat} (h : l.length ≤ n) : l.getD n .junk = .junk := by
 rw [List.getD_eq_getElem?_getD, List.getElem?_eq_none h]; rfl
section
variable (st : St) (l : List Oper) (xs : List AV)
def FB (b : Nat → Bool) : Nat → St
 | 0 => st
 | n + 1 => if b n = true then put (FB b n) ((l[n]?).bind (·.dst)) (xs.getD n .junk) else FB b n
theorem FB_heap (b : Nat → Bool) (n : Nat) : (FB st l xs b n).heap = st.heap ∧ (FB st l xs b n).k = st.k ∧ (FB st l xs b n).tmps.length = st.tmps.length := by
 induction n with
 | zero => exact ⟨rfl, rfl, rfl⟩
 | succ n ih =>
  unfold FB
  split
  ·unfold put; split
   ·exact ⟨ih.1, ih.2.1, by simpa using ih.2.2⟩
   ·exact ih
  ·exact ih
theorem FB_succ (n : Nat) : FB st l xs (fun _ => true) (n + 1) = put (FB st l xs (fun _ => true) n) ((l[n]?).bind (·.dst)) (xs.getD n .junk) := rfl
theorem FB_none {b : Nat → Bool} {s : Nat} : ∀ n, (∀ j < n, (l[j]?).bind (·.dst) = some s → b j = false) → (FB st l xs b n).tmps.getD s .junk = st.tmps.getD s .junk
 | 0, _ => rfl
 | n + 1, h => by
  have ih := FB_none n (fun j hj => h j (by omega))
  unfold FB
  split
  ·rename_i hb
   unfold put; split
   ·rename_i t ht
    have hne : t ≠ s := fun e => by
     have := h n (by omega) (by rw [ht, e])
     rw [hb] at this; cases this
    simp only
    rw [List.getD_eq_getElem?_getD, List.getElem?_set_ne hne, ← List.getD_eq_getElem?_getD]
    exact ih
   ·exact ih
  ·exact ih
theorem FB_some {b : Nat → Bool} {s j : Nat} (hs : s < st.tmps.length) (hj : (l[j]?).bind (·.dst) = some s) (hb : b j = true) (hu : ∀ (i : Nat), (l[i]?).bind (·.dst) = some s → i = j) : ∀ n, j < n → (FB st l xs b n).tmps.getD s .junk = xs.getD j .junk
 | 0, h => by omega
 | n + 1, h => by
  unfold FB
  by_cases hn : j = n
  ·subst hn
   rw [if_pos hb, hj]
   unfold put
   simp only
   rw [List.getD_eq_getElem?_getD, List.getElem?_set_self (by rw [(FB_heap st l xs b j).2.2]; exact hs)]; rfl
  ·have ih := FB_some hs hj hb hu n (by omega)
   split
   ·unfold put; split
    ·rename_i t ht
     have hne : t ≠ s := fun e => hn (hu n (by rw [ht, e])).symm
     simp only
     rw [List.getD_eq_getElem?_getD, List.getElem?_set_ne hne, ← List.getD_eq_getElem?_getD]
     exact ih
    ·exact ih
   ·exact ih
theorem FB_out {b : Nat → Bool} {s : Nat} (hs : st.tmps.length ≤ s) (n : Nat) : (FB st l xs b n).tmps.getD s .junk = .junk := by
 rw [List.getD_eq_getElem?_getD, List.getElem?_eq_none (by rw [(FB_heap st l xs b n).2.2]; exact hs)]; rfl
theorem FB_agree {b c : Nat → Bool} {s n m : Nat} (hu : ∀ (i j : Nat), (l[i]?).bind (·.dst) = some s → (l[j]?).bind (·.dst) = some s → i = j) (h : ∀ (j : Nat), (l[j]?).bind (·.dst) = some s → ((j < n ∧ b j = true) ↔ (j < m ∧ c j = true))) :
  (FB st l xs b n).tmps.getD s .junk = (FB st l xs c m).tmps.getD s .junk := by
 rcases Nat.lt_or_ge s st.tmps.length with hs | hs
 ·by_cases hex : ∃ j, (l[j]?).bind (·.dst) = some s ∧ j < n ∧ b j = true
  ·obtain ⟨j, hj, h1, h2⟩ := hex
   obtain ⟨h3, h4⟩ := (h j hj).1 ⟨h1, h2⟩
   rw [FB_some st l xs hs hj h2 (fun i hi => hu i j hi hj) n h1, FB_some st l xs hs hj h4 (fun i hi => hu i j hi hj) m h3]
  ·rw [FB_none st l xs n (fun j hj hd => by
    cases hb : b j with
    | false => rfl
    | true => exact absurd ⟨j, hd, hj, hb⟩ hex), FB_none st l xs m (fun j hj hd => by
    cases hb : c j with
    | false => rfl
    | true => exact absurd ⟨j, hd, (h j hd).2 ⟨hj, hb⟩⟩ hex)]
 ·rw [FB_out st l xs hs, FB_out st l xs hs]
end
theorem St.same {s t : St} (h1 : s.heap = t.heap) (h2 : s.k = t.k) (h3 : s.tmps.length = t.tmps.length) (h4 : ∀ n, s.tmps.getD n .junk = t.tmps.getD n .junk) : s = t := by
 obtain ⟨a, b, c⟩ := s
 obtain ⟨d, e, f⟩ := t
 simp only at h1 h2 h3 h4
 subst h1; subst h2
 have : a = d := by
  refine List.ext_getElem h3 fun i hi hj => ?_
  have := h4 i
  rw [List.getD_eq_getElem?_getD, List.getD_eq_getElem?_getD, List.getElem?_eq_getElem hi, List.getElem?_eq_getElem hj] at this
  exact this
 rw [this]
theorem DQ_run {P : Program} {ops : Array Oper} (st : St) (l : List Oper) {K : St → Prop} : ∀ (r : List Oper) (n : Nat) (xs : List AV), xs.length = n → l.drop n = r → DQ P ops r (FB st l xs (fun _ => true) n) K →
  ∃ ys, xs <+: ys ∧ ys.length = n + r.length ∧ (∀ i o, n ≤ i → l[i]? = some o → QG P ops o (FB st l ys (fun _ => true) i) (ys.getD i .junk)) ∧ K (FB st l ys (fun _ => true) (n + r.length))
 | [], n, xs, hl, hd, h => ⟨xs, List.prefix_refl _, by simpa using hl, fun i o hi ho => by
   have : l.length ≤ n := List.drop_eq_nil_iff.1 hd
   have := (List.getElem?_eq_some_iff.1 ho).1
   omega, h⟩
 | o :: r, n, xs, hl, hd, h => by
  obtain ⟨x, h1, h2⟩ := h
  have hlo : l[n]? = some o := by have := congrArg (fun q => q[0]?) hd; simpa using this
  have hd' : l.drop (n + 1) = r := by have := congrArg List.tail hd; simpa using this
  have hsame : ∀ (zs : List AV), xs <+: zs → ∀ k, k ≤ n → FB st l zs (fun _ => true) k = FB st l xs (fun _ => true) k := by
   intro zs hz k hk
   induction k with
   | zero => rfl
   | succ k ih =>
    unfold FB
    rw [ih (by omega)]
    obtain ⟨ws, rfl⟩ := hz
    have : (xs ++ ws).getD k .junk = xs.getD k .junk := by
     rw [List.getD_eq_getElem?_getD, List.getElem?_append_left (by omega), ← List.getD_eq_getElem?_getD]
    rw [this]
  have hx : FB st l (xs ++ [x]) (fun _ => true) (n + 1) = put (FB st l xs (fun _ => true) n) o.dst x := by
   rw [FB_succ, hsame _ (List.prefix_append _ _) n (Nat.le_refl _), hlo]
   have : (xs ++ [x]).getD n .junk = x := by rw [List.getD_eq_getElem?_getD, List.getElem?_append_right (by omega)]; simp [hl]
   rw [this]; rfl
  obtain ⟨ys, k1, k2, k3, k4⟩ := DQ_run st l r (n + 1) (xs ++ [x]) (by simp [hl]) hd' (by rw [hx]; exact h2)
  refine ⟨ys, (List.prefix_append _ _).trans k1, by rw [k2]; simp; omega, fun i p hi hp => ?_, by rw [show n + (o :: r).length = n + 1 + r.length by simp; omega]; exact k4⟩
  by_cases hin : i = n
  ·subst hin
   rw [hlo] at hp
   cases hp
   rw [hsame ys ((List.prefix_append _ _).trans k1) i (Nat.le_refl _)]
   obtain ⟨ws, rfl⟩ := k1
   have : (xs ++ [x] ++ ws).getD i .junk = x := by
    rw [List.getD_eq_getElem?_getD, List.append_assoc, List.getElem?_append_right (by omega)]; simp [hl]
   rw [this]; exact h1
  ·exact k3 i p (by omega) hp
theorem TW_quiet {id : Nat} {l : List Oper} (hm : P.follows .mixedOrders = true) (hback : backB l.toArray = true) (hr : readsB l = true) (h : DQ P l.toArray l st fun s => Q .normal s) : TW P (.region id l.toArray true) Q st := by
 obtain ⟨ys, _, _, hq, hend⟩ := DQ_run (P := P) (ops := l.toArray) st l l 0 [] rfl (by simp) h
 simp only [Nat.zero_add] at hend
 have hrd : ∀ i o, l[i]? = some o → ∃ rs d, rdAll l.toArray o = some rs ∧ o.dst = some d ∧ ∀ j p, l[j]? = some p → (p.dst ≠ some d ∨ i = j) ∧ ∀ s ∈ rs, p.dst ≠ some s ∨ hasDep o j = true ∨ hasDep p i = true := by
  intro i o ho
  have hi := (List.getElem?_eq_some_iff.1 ho).1
  have h1 := List.all_eq_true.1 hr i (List.mem_range.2 hi)
  rw [ho] at h1
  simp only at h1
  split at h1
  ·rename_i rs d e1 e2
   refine ⟨rs, d, e1, e2, fun j p hp => ?_⟩
   have hj := (List.getElem?_eq_some_iff.1 hp).1
   have h2 := List.all_eq_true.1 h1 j (List.mem_range.2 hj)
   rw [hp] at h2
   simp only [Bool.and_eq_true, Bool.or_eq_true, bne_iff_ne, beq_iff_eq] at h2
   exact ⟨h2.1, fun s hs => by
    have := List.all_eq_true.1 h2.2 s hs
    simp only [Bool.or_eq_true, bne_iff_ne] at this
    rcases this with (h | h) | h
    ·exact .inl h
    ·exact .inr (.inl h)
    ·exact .inr (.inr h)⟩
  ·cases h1
 have hdst : ∀ (i s : Nat), (l[i]?).bind (·.dst) = some s → ∃ o, l[i]? = some o ∧ o.dst = some s := by
  intro i s h
  obtain ⟨o, h1, h2⟩ := Option.bind_eq_some_iff.1 h
  exact ⟨o, h1, h2⟩
 have huniq : ∀ (s i j : Nat), (l[i]?).bind (·.dst) = some s → (l[j]?).bind (·.dst) = some s → i = j := by
  intro s i j hi hj
  obtain ⟨o, h1, h2⟩ := hdst i s hi
  obtain ⟨p, h3, h4⟩ := hdst j s hj
  obtain ⟨rs, d, e1, e2, e3⟩ := hrd i o h1
  rcases (e3 j p h3).1 with h | h
  ·rw [e2] at h2; cases h2; exact absurd h4 h
  ·exact h
 have hb : ∀ (i : Nat) o, l[i]? = some o → ∀ j, hasDep o j = true → j < i := by
  intro i o ho j hj
  obtain ⟨e, he, hbi⟩ := List.any_eq_true.1 hj
  simp only [Bool.and_eq_true, beq_iff_eq] at hbi
  have h1 := List.all_eq_true.1 hback i (List.mem_range.2 (by simpa using (List.getElem?_eq_some_iff.1 ho).1))
  rw [List.getElem?_toArray, ho] at h1
  have h2 := List.all_eq_true.1 h1 e he
  rw [hbi.1] at h2
  have : e.on < i := by simpa using h2
  omega
 refine TW_draw hm hback (fun b => FB st l ys b l.length) ?_ ?_ ?_
 ·refine St.same (FB_heap st l ys _ _).1 (FB_heap st l ys _ _).2.1 (FB_heap st l ys _ _).2.2 fun n => FB_none st l ys _ fun _ _ _ => rfl
 ·intro i o ho b hw hbi hcl
  rw [List.getElem?_toArray] at ho
  obtain ⟨rs, d, e1, e2, e3⟩ := hrd i o ho
  have hil := (List.getElem?_eq_some_iff.1 ho).1
  have hid : (l[i]?).bind (·.dst) = some d := by rw [ho]; exact e2
  have hstep := hq i o (Nat.zero_le _) ho (FB st l ys b l.length) (fun st' => st' = put (FB st l ys b l.length) o.dst (ys.getD i .junk)) (by rw [(FB_heap st l ys _ _).1, (FB_heap st l ys _ _).1]) (fun s hs => by
   rw [e1] at hs
   refine FB_agree st l ys (fun i j => huniq s i j) fun j hj => ?_
   obtain ⟨p, hp, hpd⟩ := hdst j s hj
   have hjl := (List.getElem?_eq_some_iff.1 hp).1
   rcases (e3 j p hp).2 s hs with h | h | h
   ·exact absurd hpd h
   ·have h1 := hb i o ho j h
    exact ⟨fun _ => ⟨h1, rfl⟩, fun _ => ⟨hjl, hw.at j h⟩⟩
   ·have h1 := hb j p hp i h
    have h2 := hcl.later hbi j (by rw [List.getElem?_toArray]; exact hp) h
    exact ⟨fun ⟨_, h3⟩ => absurd h3 (by rw [h2]; exact Bool.false_ne_true), fun ⟨h3, _⟩ => absurd h3 (by omega)⟩) rfl
  have hup : FB st l ys (upd b i) l.length = put (FB st l ys b l.length) o.dst (ys.getD i .junk) := by
   refine St.same ?_ ?_ ?_ fun n => ?_
   ·rw [e2]; exact (FB_heap st l ys _ _).1.trans (FB_heap st l ys _ _).1.symm
   ·rw [e2]; exact (FB_heap st l ys _ _).2.1.trans (FB_heap st l ys _ _).2.1.symm
   ·rw [e2]; unfold put; simp only [List.length_set]; rw [(FB_heap st l ys _ _).2.2, (FB_heap st l ys _ _).2.2]
   ·rw [e2]
    unfold put
    simp only
    by_cases hn : n = d
    ·subst hn
     rcases Nat.lt_or_ge n st.tmps.length with hs | hs
     ·rw [FB_some st l ys hs hid (by simp [upd]) (fun j hj => huniq n j i hj hid) _ hil, getD_set_self (by rw [(FB_heap st l ys _ _).2.2]; exact hs)]
     ·rw [FB_out st l ys hs, getD_none (by rw [List.length_set, (FB_heap st l ys _ _).2.2]; exact hs)]
    ·rw [getD_set_ne (Ne.symm hn)]
     refine FB_agree st l ys (fun i j => huniq n i j) fun j hj => ?_
     have hji : j ≠ i := fun e => by
      subst e
      rw [hid] at hj
      exact hn (Option.some.inj hj).symm
     simp [upd, hji]
  show vGuard P l.toArray o (FB st l ys b l.length) fun st' => st' = FB st l ys (upd b i) l.length
  rw [hup]
  exact hstep
 ·have : FB st l ys (fun i => decide (i < l.toArray.size)) l.length = FB st l ys (fun _ => true) l.length := by
   refine St.same (by rw [(FB_heap st l ys _ _).1, (FB_heap st l ys _ _).1]) (by rw [(FB_heap st l ys _ _).2.1, (FB_heap st l ys _ _).2.1]) (by rw [(FB_heap st l ys _ _).2.2, (FB_heap st l ys _ _).2.2]) fun n => FB_agree st l ys (fun i j => huniq n i j) fun j hj => ?_
   simp
  show Q .normal (FB st l ys (fun i => decide (i < l.toArray.size)) l.length)
  rw [this]; exact hend
def agree : List Nat → St → St → Prop
 | [], _, _ => True
 | n :: r, t, s => t.tmps.getD n .junk = s.tmps.getD n .junk ∧ agree r t s
theorem agree_of {t s : St} : ∀ (l : List Nat), (∀ n ∈ l, t.tmps.getD n .junk = s.tmps.getD n .junk) → agree l t s
 | [], _ => trivial
 | n :: r, h => ⟨h n (by simp), agree_of r fun m hm => h m (by simp [hm])⟩
section
variable {ops : Array Oper} {o : Oper} {r : List Oper} {s : St} {K : St → Prop} {x : AV}
theorem Dq_end (h : K s) : DQ P ops [] s K := h
theorem Dq_one (hg : o.guard = none) (h : ∀ (t : St) (N : St → Prop), t.heap = s.heap → agree ((rdAll ops o).getD []) t s → (∀ st', st' = put t o.dst x → N st') → vOp P o t N) (k : DQ P ops r (put s o.dst x) K) : DQ P ops (o :: r) s K := by
 refine ⟨x, fun t N hh hr hN => ?_, k⟩
 unfold vGuard
 rw [hg]
 exact h t _ hh (agree_of _ hr) fun _ h => h ▸ hN
variable {j u : Nat} {b c p : Bool}
theorem guard_read {t : St} (hg : o.guard = some (j, b)) (hs : (rdOp o.op).isSome = true) (ht : (ops[j]?).bind (·.dst) = some u) (hr : ∀ n ∈ (rdAll ops o).getD [], t.tmps.getD n .junk = s.tmps.getD n .junk) : t.tmps.getD u .junk = s.tmps.getD u .junk := by
 refine hr u ?_
 obtain ⟨l, hl⟩ := Option.isSome_iff_exists.1 hs
 unfold rdAll
 rw [hl, hg]
 simp [ht]
theorem Dq_may (hg : o.guard = some (j, b)) (hs : (rdOp o.op).isSome = true) (ht : (ops[j]?).bind (·.dst) = some u) (hb : s.tmps.getD u .junk = .bool c)
  (h : ∀ (t : St) (N : St → Prop), (c == b) = true → t.heap = s.heap → agree ((rdAll ops o).getD []) t s → (∀ st', st' = put t o.dst x → N st') → vOp P o t N) (k : DQ P ops r (put s o.dst (AV.opt (c == b) x)) K) : DQ P ops (o :: r) s K := by
 refine ⟨_, fun t N hh hr hN => ?_, k⟩
 have hgr := (guard_read hg hs ht hr).trans hb
 unfold vGuard
 rw [hg]
 simp only [ht, hgr]
 by_cases e : c = b
 ·rw [if_pos e]
  have : (c == b) = true := by simpa using e
  rw [this] at hN
  exact h t _ this hh (agree_of _ hr) fun _ h => h ▸ hN
 ·rw [if_neg e]
  have : (c == b) = false := by simpa using e
  rw [this] at hN; exact hN
theorem Dq_run (hg : o.guard = some (j, b)) (hs : (rdOp o.op).isSome = true) (ht : (ops[j]?).bind (·.dst) = some u) (hb : s.tmps.getD u .junk = .bool b)
  (h : ∀ (t : St) (N : St → Prop), t.heap = s.heap → agree ((rdAll ops o).getD []) t s → (∀ st', st' = put t o.dst x → N st') → vOp P o t N) (k : DQ P ops r (put s o.dst x) K) : DQ P ops (o :: r) s K :=
 Dq_may (x := x) hg hs ht hb (fun t N _ => h t N) (by simpa [AV.opt] using k)
theorem Dq_off (hg : o.guard = some (j, b)) (hs : (rdOp o.op).isSome = true) (ht : (ops[j]?).bind (·.dst) = some u) (hb : s.tmps.getD u .junk = .bool c) (hc : (!c) = b) (k : DQ P ops r (put s o.dst (.tup [])) K) : DQ P ops (o :: r) s K :=
 Dq_may (x := .junk) hg hs ht hb (fun t N e => by subst hc; cases c <;> cases e) (by
  have : (c == b) = false := by subst hc; cases c <;> rfl
  rw [this]; exact k)
theorem Dq_off0 (hg : o.guard = some (j, b)) (hs : (rdOp o.op).isSome = true) (ht : (ops[j]?).bind (·.dst) = some u) (hb : s.tmps.getD u .junk = .tup []) (k : DQ P ops r (put s o.dst (.tup [])) K) : DQ P ops (o :: r) s K := by
 refine ⟨_, fun t N hh hr hN => ?_, k⟩
 have hgr := (guard_read hg hs ht hr).trans hb
 unfold vGuard
 rw [hg]
 simp only [ht, hgr]
 exact hN
theorem Dq_may2 (hg : o.guard = some (j, b)) (hs : (rdOp o.op).isSome = true) (ht : (ops[j]?).bind (·.dst) = some u) (hb : s.tmps.getD u .junk = AV.opt p (.bool c))
  (h : ∀ (t : St) (N : St → Prop), (p && (c == b)) = true → t.heap = s.heap → agree ((rdAll ops o).getD []) t s → (∀ st', st' = put t o.dst x → N st') → vOp P o t N) (k : DQ P ops r (put s o.dst (AV.opt (p && (c == b)) x)) K) : DQ P ops (o :: r) s K := by
 cases p with
 | true => exact Dq_may hg hs ht hb (fun t N e => h t N (by simpa using e)) (by simpa using k)
 | false => exact Dq_off0 hg hs ht hb (by simpa [AV.opt] using k)
theorem Dq_off2 (hg : o.guard = some (j, b)) (hs : (rdOp o.op).isSome = true) (ht : (ops[j]?).bind (·.dst) = some u) (hb : s.tmps.getD u .junk = AV.opt p (.bool c)) (hc : (!c) = b) (k : DQ P ops r (put s o.dst (.tup [])) K) : DQ P ops (o :: r) s K := by
 cases p with
 | true => exact Dq_off hg hs ht hb hc k
 | false => exact Dq_off0 hg hs ht hb k
theorem Ops_dq {l : List Oper} {s : St} (h : DQ P ops l s K) : Ops P ops l s K := by
 induction l generalizing s with
 | nil => exact .mk h
 | cons o r ih =>
  obtain ⟨x, h1, h2⟩ := h
  refine .mk ?_
  unfold vOps
  exact h1 s _ rfl (fun _ _ => rfl) (ih h2).run
end
end Go.Proofs.YtodfkdnkgedgeaaT
