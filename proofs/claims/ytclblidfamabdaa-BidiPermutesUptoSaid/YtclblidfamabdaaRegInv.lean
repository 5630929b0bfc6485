/- A region that draws its order, in a round too: a law that holds of what is done so far, whatever the order. -/
import Derived.Test.YtclblidfamabdaaStillIn
set_option linter.unusedVariables false
set_option linter.unusedSimpArgs false
namespace Go.Proofs.Ytclblidfamabdaa
open Go

/-- Edges lead back. -/
def backB (ops : Array Oper) : Bool := (List.range ops.size).all fun j => match ops[j]? with
  | none => true
  | some o => o.after.all fun e => decide (e.on < j)
theorem backB_spec {ops : Array Oper} (h : backB ops = true) (j : Nat) (o : Oper) (ho : ops[j]? = some o) : ∀ e ∈ o.after, e.on < j := by
  unfold backB at h
  rw [List.all_eq_true] at h
  have := h j (List.mem_range.2 (Array.getElem?_eq_some_iff.1 ho).1)
  rw [ho] at this
  simp only [Array.all_eq_true_iff_forall_mem, decide_eq_true_eq] at this
  exact this

section
variable {F : Fence} {n : Nat} {P : Program} {ops : Array Oper} {Q : Exit → Act → World → Prop}

/-- What was done is shut under what must come ahead. -/
def Clo (ops : Array Oper) (L : Nat → Bool) : Prop := ∀ j oj, ops[j]? = some oj → L j = true → ∀ e ∈ oj.after, Region.binds .any e = true → L e.on = true

theorem wpAnyIn_inv (I : (Nat → Bool) → Act → World → Prop) (hback : backB ops = true)
    (hstep : ∀ L i o a w, Clo ops L → I L a w → ops[i]? = some o → L i = false → (∀ e ∈ o.after, Region.binds .any e = true → L e.on = true) → wpOpIn F n P ops Q i (fun a' w' => I (fun j => decide (j = i) || L j) a' w') a w)
    (hend : ∀ L a w, (∀ i, i < ops.size → L i = true) → I L a w → Q .normal a w) :
    ∀ fuel (listed : Array Bool) a w, listed.size = ops.size → Clo ops (fun j => listed.getD j false) → I (fun j => listed.getD j false) a w →
      ((List.range ops.size).filter fun j => !listed.getD j false).length ≤ fuel → wpAnyIn F n P .any ops Q fuel listed a w := by
  have hall : ∀ (listed : Array Bool), listed.size = ops.size → Region.ready .any ops listed = [] → ∀ i, i < ops.size → listed.getD i false = true := by
    intro listed hsz hr i
    induction i using Nat.strongRecOn with
    | _ i ih =>
      intro hi
      cases hv : listed.getD i false with
      | true => rfl
      | false =>
        have hm : i ∈ Region.ready .any ops listed := mem_ready.2 ⟨getD_in (by omega) hv, ops[i], Array.getElem?_eq_getElem hi, fun e he hb => ih e.on (backB_spec hback i _ (Array.getElem?_eq_getElem hi) e he) (by
          have := backB_spec hback i _ (Array.getElem?_eq_getElem hi) e he; omega)⟩
        rw [hr] at hm
        cases hm
  intro fuel
  induction fuel with
  | zero =>
    intro listed a w hsz hclo hI hf
    have hl : ∀ i, i < ops.size → listed.getD i false = true := fun i hi => by
      have h0 : ((List.range ops.size).filter fun j => !listed.getD j false) = [] := List.length_eq_zero_iff.1 (by omega)
      rw [List.filter_eq_nil_iff] at h0
      have := h0 i (List.mem_range.2 hi)
      simpa using this
    refine ⟨?_, hend _ _ _ hl hI⟩
    cases hr : Region.ready .any ops listed with
    | nil => rfl
    | cons j _ =>
      have hm : j ∈ Region.ready .any ops listed := by rw [hr]; exact List.mem_cons_self
      obtain ⟨h0, o, ho, _⟩ := mem_ready.1 hm
      have := hl j (Array.getElem?_eq_some_iff.1 ho).1
      rw [getD_both h0] at this
      cases this
  | succ fuel ih =>
    intro listed a w hsz hclo hI hf
    refine ⟨fun hr => hend _ _ _ (hall listed hsz hr) hI, fun i hi => ?_⟩
    obtain ⟨h0, o, ho, hd⟩ := mem_ready.1 hi
    have hlt := (Array.getElem?_eq_some_iff.1 ho).1
    have hset : (fun j => (listed.setIfInBounds i true).getD j false) = (fun j => decide (j = i) || listed.getD j false) := by
      funext j
      by_cases e : j = i
      · subst e
        have : j < listed.size := by omega
        simp [this]
      · rw [getD_set_ne false (Ne.symm e)]; simp [e]
    refine wpOpIn_mono (fun a' w' hI' => ih (listed.setIfInBounds i true) a' w' (by simpa using hsz) ?_ (by rw [hset]; exact hI') ?_) (hstep _ i o a w hclo hI ho (getD_both h0) hd)
    · rw [hset]
      intro j oj hj hl e he hb
      by_cases e1 : j = i
      · subst e1
        obtain rfl : o = oj := Option.some.inj (ho.symm.trans hj)
        simp [hd e he hb]
      · have := hclo j oj hj (by simpa [e1] using hl) e he hb
        simp only [this, Bool.or_true]
    · have e2 : ((List.range ops.size).filter fun j => !(listed.setIfInBounds i true).getD j false) = ((List.range ops.size).filter fun j => !listed.getD j false).filter fun j => !decide (j = i) := by
        rw [List.filter_filter]
        congr 1
        funext j
        have := congrFun hset j
        rw [this]
        cases decide (j = i) <;> cases listed.getD j false <;> rfl
      have e3 : (((List.range ops.size).filter fun j => !listed.getD j false).filter fun j => !decide (j = i)).length < ((List.range ops.size).filter fun j => !listed.getD j false).length := by
        rw [List.length_filter_lt_length_iff_exists]
        exact ⟨i, List.mem_filter.2 ⟨List.mem_range.2 hlt, by simp [getD_both h0]⟩, by simp⟩
      rw [e2]
      omega

theorem wpIn_region_inv (I : (Nat → Bool) → Act → World → Prop) {id : Nat} {a : Act} {w : World} (hm : P.follows .mixedOrders = true) (hback : backB ops = true)
    (h0 : I (fun _ => false) a w.drew)
    (hstep : ∀ L i o a w, Clo ops L → I L a w → ops[i]? = some o → L i = false → (∀ e ∈ o.after, Region.binds .any e = true → L e.on = true) → wpOpIn F n P ops Q i (fun a' w' => I (fun j => decide (j = i) || L j) a' w') a w)
    (hend : ∀ L a w, (∀ i, i < ops.size → L i = true) → I L a w → Q .normal a w) : (Code.region id ops true).wpIn F n P Q a w := by
  have e : (fun j => (Array.replicate ops.size false).getD j false) = (fun _ => false) := funext fun j => getD_replicate_false _ _
  refine wpIn_region_any hm (wpAnyIn_inv I hback hstep hend ops.size _ a w.drew (by simp) ?_ (by rw [e]; exact h0) (Nat.le_trans (List.length_filter_le _ _) (by simp)))
  rw [e]
  intro j oj _ h
  cases h

/-- What a calm operation leaves. -/
def calmUpon (o : Oper) (a : Act) (K : Act → World → Prop) : Result Next → Prop
  | .ok (.value v) w' => K (a.put o.dst v) w'
  | .ok .skip w' => K (a.put o.dst undef) w'
  | _ => False
theorem calmUpon_by {o : Oper} {a : Act} {I : Act → World → Prop} {r : Result Next} (h : ∀ K : Act → World → Prop, (∀ a w, I a w → K a w) → calmUpon o a K r) : calmUpon o a I r := h _ (fun _ _ h => h)
attribute [local go_sem] calmUpon
theorem wpOpIn_calm {i : Nat} {o : Oper} {a : Act} {w : World} {K : Act → World → Prop} (ho : ops[i]? = some o) (hc : calm o = true) (hg : o.guard = none)
    (h : calmUpon o a K ((execOp a.eval o).run P w)) : wpOpIn F n P ops Q i K a w := by
  unfold wpOpIn
  simp only [ho]
  have hw : Region.wanted o (yielded ops a.tmps) = true := by unfold Region.wanted; rw [hg]
  rw [if_pos hw]
  refine ⟨fun f hf => (by rw [calm_about hc] at hf; cases hf), ?_⟩
  rw [calm_sem hc]
  cases hr : (execOp a.eval o).run P w with
  | ok nx w' =>
    rw [hr] at h
    cases nx <;> simp only [calmUpon] at h
    case value v => exact h
    case skip => exact h
  | halt x w' => rw [hr] at h; simp only [calmUpon] at h

/-- The law is kept by each operation, whose own have gone ahead. -/
def StepsOk (F : Fence) (n : Nat) (P : Program) (ops : Array Oper) (Q : Exit → Act → World → Prop) (I : (Nat → Bool) → Act → World → Prop) : List Oper → Nat → Prop
  | [], _ => True
  | o :: l, i => (∀ L a w, Clo ops L → I L a w → L i = false → (∀ e ∈ o.after, Region.binds .any e = true → L e.on = true) → calmUpon o a (fun a' w' => I (fun j => decide (j = i) || L j) a' w') ((execOp a.eval o).run P w)) ∧ StepsOk F n P ops Q I l (i + 1)
theorem stepsOk_at {I : (Nat → Bool) → Act → World → Prop} : ∀ (l : List Oper) (k : Nat), (∀ j, l[j]? = ops[k + j]?) → (∀ o ∈ l, calm o = true ∧ o.guard = none) → StepsOk F n P ops Q I l k →
    ∀ i o, k ≤ i → ops[i]? = some o → ∀ L a w, Clo ops L → I L a w → L i = false → (∀ e ∈ o.after, Region.binds .any e = true → L e.on = true) → wpOpIn F n P ops Q i (fun a' w' => I (fun j => decide (j = i) || L j) a' w') a w := by
  intro l
  induction l with
  | nil =>
    intro k hl _ _ i o hk ho
    have := hl (i - k)
    rw [show k + (i - k) = i by omega, ho] at this
    cases this
  | cons x l ih =>
    intro k hl hc h i o hk ho
    by_cases e : i = k
    · subst e
      have h0 := hl 0
      rw [List.getElem?_cons_zero, Nat.add_zero, ho] at h0
      obtain rfl := Option.some.inj h0
      intro L a w h1 h2 h3 h4
      exact wpOpIn_calm ho (hc x List.mem_cons_self).1 (hc x List.mem_cons_self).2 (h.1 L a w h1 h2 h3 h4)
    · refine ih (k + 1) (fun j => ?_) (fun o ho => hc o (List.mem_cons_of_mem _ ho)) h.2 i o (by omega) ho
      have := hl (j + 1)
      rw [List.getElem?_cons_succ] at this
      rw [this]
      congr 1
      omega
def calmG (o : Oper) : Bool := calm o && o.guard.isNone
theorem wpIn_region_steps (I : (Nat → Bool) → Act → World → Prop) {id : Nat} {a : Act} {w : World} {l : List Oper} (hm : P.follows .mixedOrders = true) (hB : (backB l.toArray && l.all calmG) = true)
    (h0 : I (fun _ => false) a w.drew) (hs : StepsOk F n P l.toArray Q I l 0)
    (hend : ∀ L a w, (∀ i, i < l.length → L i = true) → I L a w → Q .normal a w) : (Code.region id l.toArray true).wpIn F n P Q a w := by
  rw [Bool.and_eq_true] at hB
  have hc : ∀ o ∈ l, calm o = true ∧ o.guard = none := fun o ho => by
    have := List.all_eq_true.1 hB.2 o ho
    unfold calmG at this
    simpa using this
  refine wpIn_region_inv I hm hB.1 h0 (fun L i o a w h1 h2 h3 h4 h5 => ?_) (fun L a w hL => hend L a w (fun i hi => hL i (by simpa using hi)))
  exact stepsOk_at (ops := l.toArray) l 0 (fun j => by simp) hc hs i o (Nat.zero_le _) h3 L a w h1 h2 h4 h5
end
end Go.Proofs.Ytclblidfamabdaa
