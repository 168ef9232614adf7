/- Walks over the program's functions, on values without memory, and what they come to. No condition. -/
import Derived.Test.YtodfkdnkgedgeaaTw12
set_option linter.unusedVariables false
set_option linter.unusedSimpArgs false
namespace Go.Proofs.YtodfkdnkgedgeaaT
open Go Go.RowKit
variable {cx : Cx} {st : St} {a : Act} {w : World} {P : Program} {K : St → Prop} {Q : Exit → St → Prop}
def upd (b : Nat → Bool) (i : Nat) : Nat → Bool := fun j => if j = i then true else b j
theorem upd_count {i : Nat} {b : Nat → Bool} : ∀ {O : List Nat}, O.Nodup → i ∈ O → b i = false → (O.filter fun j => !upd b i j).length + 1 = (O.filter fun j => !b j).length
 | [], _, hi, _ => by cases hi
 | x :: r, hn, hi, hb => by
  rw [List.nodup_cons] at hn
  rcases List.mem_cons.1 hi with rfl | hi
  ·have h1 : (r.filter fun j => !upd b i j) = r.filter fun j => !b j := by
    refine List.filter_congr (fun j hj => ?_)
    have : j ≠ i := fun e => hn.1 (e ▸ hj)
    simp [upd, this]
   rw [List.filter_cons, List.filter_cons]
   simp [upd, hb] at h1 ⊢
   rw [← h1]
  ·have hxi : x ≠ i := fun e => hn.1 (e ▸ hi)
   have h1 := upd_count hn.2 hi hb
   rw [List.filter_cons, List.filter_cons]
   have : upd b i x = b x := by simp [upd, hxi]
   rw [this]
   cases b x
   ·simp only [Bool.not_false, if_true, List.length_cons]; omega
   ·simpa using h1
def Waits (o : Oper) (b : Nat → Bool) : Prop := ∀ e ∈ o.after.toList, Region.binds .any e = true → b e.on = true
def Closed (ops : Array Oper) (b : Nat → Bool) : Prop := ∀ (d : Nat) o, ops[d]? = some o → b d = true → Waits o b
theorem any_sound {ops : Array Oper} (hback : ∀ (i : Nat) o, ops[i]? = some o → ∀ e ∈ o.after.toList, Region.binds .any e = true → e.on < i) (S : (Nat → Bool) → St)
  (hstep : ∀ (i : Nat) o, ops[i]? = some o → ∀ b, Waits o b → b i = false → Closed ops b → vGuard P ops o (S b) fun st' => st' = S (upd b i)) (hend : K (S fun i => decide (i < ops.size))) :
  ∀ (fuel : Nat) (listed : Array Bool), listed.size = ops.size → ((List.range ops.size).filter fun j => !listed.getD j false).length = fuel → Closed ops (fun j => listed.getD j false) → ∀ {a : Act} {w : World}, FR cx (S fun j => listed.getD j false) a w → wpAny P .any ops (Nx cx K) fuel listed a w := by
 have hready : ∀ (listed : Array Bool), listed.size = ops.size → ∀ i, i ∈ Region.ready .any ops listed → i < ops.size ∧ listed.getD i false = false ∧ ∃ o, ops[i]? = some o ∧ Waits o fun j => listed.getD j false := by
  intro listed hs i hi
  obtain ⟨h1, o, h2, h3⟩ := mem_ready.1 hi
  have hlt := (Array.getElem?_eq_some_iff.1 h2).1
  refine ⟨hlt, ?_, o, h2, fun e he hb => h3 e (by simpa using he) hb⟩
  have : i < listed.size := by omega
  simpa [Array.getD_eq_getD_getElem?, this] using h1
 have hall : ∀ (listed : Array Bool), listed.size = ops.size → Region.ready .any ops listed = [] → ∀ i, i < ops.size → listed.getD i false = true := by
  intro listed hs hr i
  induction i using Nat.strongRecOn with
  | _ i ih =>
   intro hi
   cases hb : listed.getD i false with
   | true => rfl
   | false =>
    exfalso
    have ho : ops[i]? = some ops[i] := Array.getElem?_eq_getElem hi
    have : i ∈ Region.ready .any ops listed := mem_ready.2 ⟨by
     have : i < listed.size := by omega
     simpa [Array.getD_eq_getD_getElem?, this] using hb, _, ho, fun e he hbi => by
     have hlt := hback i _ ho e (by simpa using he) hbi
     exact ih e.on hlt (by omega)⟩
    rw [hr] at this
    cases this
 have hfin : ∀ (listed : Array Bool), listed.size = ops.size → Region.ready .any ops listed = [] → (fun j => listed.getD j false) = fun i => decide (i < ops.size) := by
  intro listed hs hr
  funext i
  by_cases hi : i < ops.size
  ·rw [hall listed hs hr i hi]; simp [hi]
  ·have : ¬ i < listed.size := by omega
   simp [Array.getD_eq_getD_getElem?, hi, this]
 intro fuel
 induction fuel with
 | zero =>
  intro listed hs hc hcl a w hf
  have hr : Region.ready .any ops listed = [] := by
   refine List.eq_nil_iff_forall_not_mem.2 (fun i hi => ?_)
   obtain ⟨h1, h2, _⟩ := hready listed hs i hi
   have : i ∈ (List.range ops.size).filter fun j => !listed.getD j false := List.mem_filter.2 ⟨List.mem_range.2 h1, by rw [h2]; rfl⟩
   rw [List.eq_nil_of_length_eq_zero hc] at this
   cases this
  refine ⟨hr, ?_⟩
  rw [hfin listed hs hr] at hf
  exact ⟨_, hend, hf⟩
 | succ fuel ih =>
  intro listed hs hc hcl a w hf
  refine ⟨fun hr => ?_, fun i hi => ?_⟩
  ·rw [hfin listed hs hr] at hf
   exact ⟨_, hend, hf⟩
  ·obtain ⟨h1, h2, o, h3, h4⟩ := hready listed hs i hi
   refine vGuard_sound h3 hf (hstep i o h3 _ h4 h2 hcl) (fun a' w' hk => ?_)
   obtain ⟨st', rfl, hf'⟩ := hk
   have hup : (fun j => (listed.setIfInBounds i true).getD j false) = upd (fun j => listed.getD j false) i := by
    funext j
    unfold upd
    by_cases hj : j = i
    ·subst hj
     have : j < listed.size := by omega
     simp [Array.getD_eq_getD_getElem?, this]
    ·rw [if_neg hj]
     simp [Array.getElem?_setIfInBounds_ne (Ne.symm hj)]
   refine ih (listed.setIfInBounds i true) (by simpa using hs) ?_ ?_ (by rw [hup]; exact hf')
   ·have := upd_count (b := fun j => listed.getD j false) List.nodup_range (List.mem_range.2 h1) h2
    have h5 : ((List.range ops.size).filter fun j => !(listed.setIfInBounds i true).getD j false) = (List.range ops.size).filter fun j => !upd (fun j => listed.getD j false) i j := List.filter_congr fun j _ => by rw [← hup]
    rw [h5]
    omega
   ·rw [hup]
    intro d od hd hbd e he hb
    by_cases hdi : d = i
    ·subst hdi
     rw [h3] at hd
     cases hd
     have := h4 e he hb
     unfold upd
     split
     ·rfl
     ·exact this
    ·have : (fun j => listed.getD j false) d = true := by simpa [upd, hdi] using hbd
     have := hcl d od hd this e he hb
     unfold upd
     split
     ·rfl
     ·exact this
def backB (ops : Array Oper) : Bool := (List.range ops.size).all fun i => match ops[i]? with
 | some o => o.after.toList.all fun e => !Region.binds .any e || decide (e.on < i)
 | none => true
theorem TW_draw {id : Nat} {ops : Array Oper} (hm : P.follows .mixedOrders = true) (hback : backB ops = true) (S : (Nat → Bool) → St) (h0 : S (fun _ => false) = st)
  (hstep : ∀ (i : Nat) o, ops[i]? = some o → ∀ b, Waits o b → b i = false → Closed ops b → vGuard P ops o (S b) fun st' => st' = S (upd b i)) (hend : Q .normal (S fun i => decide (i < ops.size))) : TW P (.region id ops true) Q st := by
 refine .mk fun cx a w hf => ?_
 have hb : ∀ (i : Nat) o, ops[i]? = some o → ∀ e ∈ o.after.toList, Region.binds .any e = true → e.on < i := by
  intro i o ho e he hbi
  have h1 := List.all_eq_true.1 hback i (List.mem_range.2 (Array.getElem?_eq_some_iff.1 ho).1)
  rw [ho] at h1
  have h2 := List.all_eq_true.1 h1 e he
  rw [hbi] at h2
  simpa using h2
 have hempty : (fun j => (Array.replicate ops.size false).getD j false) = fun _ => false := by
  funext j
  simp only [Array.getD_eq_getD_getElem?, Array.getElem?_replicate]
  split <;> rfl
 refine wp_mono (wp_region_any (Q := Nx cx fun st' => Q .normal st') hm ?_) ?_
 ·refine any_sound hb S hstep hend ops.size _ (by simp) ?_ ?_ ?_
  ·have : ((List.range ops.size).filter fun j => !(Array.replicate ops.size false).getD j false) = List.range ops.size := List.filter_eq_self.2 fun j _ => by rw [congrFun hempty j]; rfl
   rw [this, List.length_range]
  ·intro d o _ hd
   rw [hempty] at hd
   cases hd
  ·rw [hempty, h0]
   obtain ⟨Im, M, h⟩ := hf
   exact ⟨Im, M, h.drew⟩
 ·intro e a' w' hn
  cases e with
  | normal => obtain ⟨st', h1, h2⟩ := hn; exact ⟨st', h1, h2⟩
  | _ => exact hn.elim
def hasDep (o : Oper) (j : Nat) : Bool := o.after.toList.any fun e => Region.binds .any e && (e.on == j)
theorem Waits.at {o : Oper} {b : Nat → Bool} (h : Waits o b) (j : Nat) (hj : hasDep o j = true) : b j = true := by
 obtain ⟨e, he, hb⟩ := List.any_eq_true.1 hj
 simp only [Bool.and_eq_true, beq_iff_eq] at hb
 exact hb.2 ▸ h e he hb.1
theorem Closed.later {ops : Array Oper} {b : Nat → Bool} (h : Closed ops b) {i : Nat} (hi : b i = false) (d : Nat) {od : Oper} (hd : ops[d]? = some od) (hdep : hasDep od i = true) : b d = false := by
 cases hb : b d with
 | false => rfl
 | true =>
  have := (h d od hd hb).at i hdep
  rw [hi] at this
  cases this
def DSteps (P : Program) (ops : Array Oper) (S : (Nat → Bool) → St) : Nat → List Oper → Prop
 | _, [] => True
 | i, o :: r => (∀ b, Waits o b → b i = false → Closed ops b → vGuard P ops o (S b) fun st' => st' = S (upd b i)) ∧ DSteps P ops S (i + 1) r
theorem DSteps.get {ops : Array Oper} {S : (Nat → Bool) → St} (l : List Oper) : ∀ (k : Nat), DSteps P ops S k l → ∀ (i j : Nat) o, l[i]? = some o → j = k + i → ∀ b, Waits o b → b j = false → Closed ops b → vGuard P ops o (S b) fun st' => st' = S (upd b j) := by
 induction l with
 | nil => intro k _ i j o hi; simp at hi
 | cons o' r ih =>
  intro k h i j o hi hj
  obtain ⟨h1, h2⟩ := h
  cases i with
  | zero =>
   rw [List.getElem?_cons_zero] at hi
   cases hi
   rw [Nat.add_zero] at hj
   subst hj
   exact h1
  | succ i => exact ih (k + 1) h2 i j o (by simpa using hi) (by omega)
theorem TW_open {id : Nat} {l : List Oper} (hm : P.follows .mixedOrders = true) (hback : backB l.toArray = true) (S : (Nat → Bool) → St) (h0 : S (fun _ => false) = st) (hstep : DSteps P l.toArray S 0 l) (hend : Q .normal (S fun i => decide (i < l.length))) : TW P (.region id l.toArray true) Q st :=
 TW_draw hm hback S h0 (fun i o ho b hw hb hc => by
  exact DSteps.get l 0 hstep i i o (by simpa using ho) (by omega) b hw hb hc) (by simpa using hend)
end Go.Proofs.YtodfkdnkgedgeaaT
