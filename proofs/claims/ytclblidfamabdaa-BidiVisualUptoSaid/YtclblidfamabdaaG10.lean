/- A region that draws its order, in a round of a range over a function: what reads first, in any order, then what writes, in one. -/
import Derived.Test.YtclblidfamabdaaG1
import Derived.StillTailTactics
import Derived.OrdersIn
import Derived.LoopIn
import Derived.Test.YtclblidfamabdaaG7
import Derived.OwnWalkIn
import Derived.Test.YtclblidfamabdaaG9
set_option linter.unusedVariables false
set_option linter.unusedSimpArgs false
namespace Go.Proofs.Ytclblidfamabdaa
open Go

/-- Operations that call nothing. -/
def calm (o : Oper) : Bool := match o.op with
  | .load .. | .store .. | .slice .. | .fieldAddr .. | .indexAddr .. | .move .. | .assign .. | .binOp .. => true
  | _ => false
theorem calm_about {o : Oper} (h : calm o = true) (P : Program) (w : World) (ρ : Operand → Value) : o.about P w ρ = none := by
  unfold Oper.about
  unfold calm at h
  split
  · rename_i c hc; rw [hc] at h; cases h
  · rfl
theorem calm_sem {o : Oper} (h : calm o = true) (ro : Option Nat) (ρ : Operand → Value) : Oper.semAt ro ρ o = execOp ρ o := Oper.semAt_eq ro ρ o (fun c hc => by
  unfold calm at h; rw [hc] at h; cases h)
theorem noEnter_v {P : Program} {s : Sem Value} {w w' : World} {f : FuncId} {args : Array Value} (h : (do pure (Next.value (← s)) : Sem Next).run P w = .ok (.enter f args) w') : False := by
  rw [Sem.run_bind] at h
  cases hs : Sem.run P s w with
  | ok v w2 => rw [hs] at h; cases h
  | halt x w2 => rw [hs] at h; cases h
theorem noEnter_u {P : Program} {s : Sem Unit} {w w' : World} {f : FuncId} {args : Array Value} (h : (do s; pure Next.skip : Sem Next).run P w = .ok (.enter f args) w') : False := by
  rw [Sem.run_bind] at h
  cases hs : Sem.run P s w with
  | ok v w2 => rw [hs] at h; cases h
  | halt x w2 => rw [hs] at h; cases h
theorem calm_enter {o : Oper} (hc : calm o = true) {P : Program} {ρ : Operand → Value} {w w' : World} {f : FuncId} {args : Array Value} (h : (execOp ρ o).run P w = .ok (.enter f args) w') : False := by
  unfold calm at hc
  unfold execOp at h
  cases ho : o.op <;> rw [ho] at hc h <;> first | (cases hc; done) | exact noEnter_v h | exact noEnter_u h | cases h

section
variable {F : Fence} {n : Nat} {P : Program} {ops : Array Oper} {md : Region.Mode} {w : World}
theorem wpOpIn_of_stOp (hc : ∀ (i : Nat) (o : Oper), ops[i]? = some o → calm o = true) {i : Nat} {a : Act} {K : Act → Prop} {K' : Act → World → Prop} {Q' : Exit → Act → World → Prop} (h : ∀ a, K a → K' a w) (hh : stOp P ops w i K a) : wpOpIn F n P ops Q' i K' a w := by
  unfold stOp at hh
  unfold wpOpIn
  split
  · rename_i ho; simp only [ho] at hh; exact h _ hh
  · rename_i o ho
    have ca := hc i o ho
    simp only [ho] at hh
    split
    · rename_i hw
      simp only [hw, if_true] at hh
      refine ⟨fun f hf => (by rw [calm_about ca] at hf; cases hf), ?_⟩
      rw [calm_sem ca]
      unfold Oper.still at hh
      cases hr : (execOp a.eval o).run P w with
      | ok nx w' =>
        rw [hr] at hh
        cases nx <;> simp only [Oper.stillUpon] at hh
        case value v => obtain ⟨rfl, h2⟩ := hh; exact h _ h2
        case skip => obtain ⟨rfl, h2⟩ := hh; exact h _ h2
        case enter f args => exact (calm_enter ca hr).elim
      | halt x w' => rw [hr] at hh; simp only [Oper.stillUpon] at hh
    · rename_i hw
      simp only [hw] at hh
      exact ⟨fun f hf => (by rw [calm_about ca] at hf; cases hf), h _ hh⟩

theorem wpAnyIn_of_head (hc : ∀ (i : Nat) (o : Oper), ops[i]? = some o → calm o = true) {m g : Nat} {L : Array Bool → Act → Prop} {Q' : Exit → Act → World → Prop} (hL : ∀ listed a, L listed a → wpAnyIn F n P md ops Q' g listed a w) :
    ∀ (f : Nat) (listed : Array Bool) (a : Act), wpAnyL P md ops w m L f listed a → wpAnyIn F n P md ops Q' (f + g) listed a w
  | 0, listed, a, h => by rw [Nat.zero_add]; exact hL _ _ h
  | f + 1, listed, a, h => by
    rw [show f + 1 + g = (f + g) + 1 by omega]
    exact ⟨fun h0 => absurd h0 h.1, fun i hi => wpOpIn_of_stOp hc (fun a' h' => wpAnyIn_of_head hc hL f _ a' h') (h.2 i hi).2⟩

theorem wpAnyIn_of_seq {Q' : Exit → Act → World → Prop} : ∀ (l : List Oper) (k : Nat) (listed : Array Bool) (a : Act) (w : World), (∀ j, l[j]? = ops[k + j]?) →
    Region.seqB md ops l.length k listed = true → wpListIn F n P ops Q' l a w → wpAnyIn F n P md ops Q' l.length listed a w
  | [], _, _, _, _, _, hB, h => ⟨by simpa [Region.seqB] using hB, h⟩
  | o :: l, k, listed, a, w, hl, hB, h => by
    have h0 : ops[k]? = some o := by simpa using (hl 0).symm
    simp only [List.length_cons, Region.seqB, Bool.and_eq_true, decide_eq_true_eq] at hB
    refine ⟨fun h1 => (by rw [hB.1] at h1; cases h1), fun i hi => ?_⟩
    rw [hB.1] at hi
    have hik : i = k := by simpa using hi
    subst hik
    have hw : wpOpIn F n P ops Q' i (wpListIn F n P ops Q' l) a w := by unfold wpOpIn; simp only [h0]; exact h
    exact wpOpIn_mono (fun a' w' h' => wpAnyIn_of_seq l (i + 1) _ a' w' (fun j => by have := hl (j + 1); simpa [Nat.add_assoc, Nat.add_comm 1 j] using this) hB.2 h') hw

theorem wpIn_region_still_tail {id : Nat} {Q : Exit → Act → World → Prop} {a : Act} {w : World} {l : List Oper} (m : Nat) (hm : P.follows .mixedOrders = true) (hB : (Region.lexTailB .any l.toArray m && l.all calm) = true)
    (h : wpStill P l.toArray w.drew (fun a' => wpListIn F n P l.toArray Q (l.drop m) a' w.drew) (l.take m) a) : (Code.region id l.toArray true).wpIn F n P Q a w := by
  rw [Bool.and_eq_true] at hB
  obtain ⟨hB, hcalm⟩ := hB
  simp only [Region.lexTailB, Bool.and_eq_true, decide_eq_true_eq] at hB
  obtain ⟨⟨⟨⟨hsel, hn⟩, hs⟩, hc⟩, hlex⟩ := hB
  have hca : ∀ (i : Nat) (o : Oper), l.toArray[i]? = some o → calm o = true := fun i o ho => by
    rw [List.all_eq_true] at hcalm
    rw [List.getElem?_toArray] at ho
    exact hcalm o (List.mem_of_getElem? ho)
  have hn' : m < l.length := by simpa using hn
  have htl : (l.take m).length = m := by simp; omega
  have hdl : (l.drop m).length = l.toArray.size - m := by simp
  have inv0 : HeadInv .any l.toArray m (Array.replicate l.toArray.size false) :=
    ⟨by simp, fun j oj _ hl => (by rw [getD_replicate_false] at hl; cases hl), fun t _ ht => getD_in (by simpa using ht) (getD_replicate_false _ _)⟩
  have H := wpAnyL_lex (md := .any) (g := l.toArray.size - m) hsel hs hc hn (l.take m) 0 _ a (fun j hj => by
    have hj' : j < m := by rw [htl] at hj; exact hj
    simp [hj']) (by simpa using htl) inv0 (by rw [htl]; exact hlex) h
  refine wpIn_region_any hm ?_
  have := wpAnyIn_of_head (F := F) (n := n) hca (Q' := Q) (g := l.toArray.size - m) (fun listed a' hL => by
    have := wpAnyIn_of_seq (F := F) (n := n) (md := .any) (Q' := Q) (l.drop m) m listed a' w.drew (fun j => by simp [List.getElem?_drop]) (by rw [hdl]; exact hL.1) hL.2
    rwa [hdl] at this) _ _ _ H
  rw [htl, show m + (l.toArray.size - m) = l.toArray.size by omega] at this
  exact this
end
end Go.Proofs.Ytclblidfamabdaa

/- A region that draws its order, in a round too: a law that holds of what is done so far, whatever the order. -/
set_option linter.unusedVariables false
set_option linter.unusedSimpArgs false
namespace Go.Proofs.Ytclblidfamabdaa
open Go

/-- Edges lead back. -/
def backB (ops : Array Oper) : Bool := (List.range ops.size).all fun j => match ops[j]? with
  | none => true
  | some o => o.after.all fun e => decide (e.on < j)
theorem backB_spec {ops : Array Oper} (h : backB ops = true) (j : Nat) (o : Oper) (ho : ops[j]? = some o) : ∀ e ∈ o.after, e.on < j := by
  unfold backB at h
  rw [List.all_eq_true] at h
  have := h j (List.mem_range.2 (Array.getElem?_eq_some_iff.1 ho).1)
  rw [ho] at this
  simp only [Array.all_eq_true_iff_forall_mem, decide_eq_true_eq] at this
  exact this

section
variable {F : Fence} {n : Nat} {P : Program} {ops : Array Oper} {Q : Exit → Act → World → Prop}

/-- What was done is shut under what must come ahead. -/
def Clo (ops : Array Oper) (L : Nat → Bool) : Prop := ∀ j oj, ops[j]? = some oj → L j = true → ∀ e ∈ oj.after, Region.binds .any e = true → L e.on = true

theorem wpAnyIn_inv (I : (Nat → Bool) → Act → World → Prop) (hback : backB ops = true)
    (hstep : ∀ L i o a w, Clo ops L → I L a w → ops[i]? = some o → L i = false → (∀ e ∈ o.after, Region.binds .any e = true → L e.on = true) → wpOpIn F n P ops Q i (fun a' w' => I (fun j => decide (j = i) || L j) a' w') a w)
    (hend : ∀ L a w, (∀ i, i < ops.size → L i = true) → I L a w → Q .normal a w) :
    ∀ fuel (listed : Array Bool) a w, listed.size = ops.size → Clo ops (fun j => listed.getD j false) → I (fun j => listed.getD j false) a w →
      ((List.range ops.size).filter fun j => !listed.getD j false).length ≤ fuel → wpAnyIn F n P .any ops Q fuel listed a w := by
  have hall : ∀ (listed : Array Bool), listed.size = ops.size → Region.ready .any ops listed = [] → ∀ i, i < ops.size → listed.getD i false = true := by
    intro listed hsz hr i
    induction i using Nat.strongRecOn with
    | _ i ih =>
      intro hi
      cases hv : listed.getD i false with
      | true => rfl
      | false =>
        have hm : i ∈ Region.ready .any ops listed := mem_ready.2 ⟨getD_in (by omega) hv, ops[i], Array.getElem?_eq_getElem hi, fun e he hb => ih e.on (backB_spec hback i _ (Array.getElem?_eq_getElem hi) e he) (by
          have := backB_spec hback i _ (Array.getElem?_eq_getElem hi) e he; omega)⟩
        rw [hr] at hm
        cases hm
  intro fuel
  induction fuel with
  | zero =>
    intro listed a w hsz hclo hI hf
    have hl : ∀ i, i < ops.size → listed.getD i false = true := fun i hi => by
      have h0 : ((List.range ops.size).filter fun j => !listed.getD j false) = [] := List.length_eq_zero_iff.1 (by omega)
      rw [List.filter_eq_nil_iff] at h0
      have := h0 i (List.mem_range.2 hi)
      simpa using this
    refine ⟨?_, hend _ _ _ hl hI⟩
    cases hr : Region.ready .any ops listed with
    | nil => rfl
    | cons j _ =>
      have hm : j ∈ Region.ready .any ops listed := by rw [hr]; exact List.mem_cons_self
      obtain ⟨h0, o, ho, _⟩ := mem_ready.1 hm
      have := hl j (Array.getElem?_eq_some_iff.1 ho).1
      rw [getD_both h0] at this
      cases this
  | succ fuel ih =>
    intro listed a w hsz hclo hI hf
    refine ⟨fun hr => hend _ _ _ (hall listed hsz hr) hI, fun i hi => ?_⟩
    obtain ⟨h0, o, ho, hd⟩ := mem_ready.1 hi
    have hlt := (Array.getElem?_eq_some_iff.1 ho).1
    have hset : (fun j => (listed.setIfInBounds i true).getD j false) = (fun j => decide (j = i) || listed.getD j false) := by
      funext j
      by_cases e : j = i
      · subst e
        have : j < listed.size := by omega
        simp [this]
      · rw [getD_set_ne false (Ne.symm e)]; simp [e]
    refine wpOpIn_mono (fun a' w' hI' => ih (listed.setIfInBounds i true) a' w' (by simpa using hsz) ?_ (by rw [hset]; exact hI') ?_) (hstep _ i o a w hclo hI ho (getD_both h0) hd)
    · rw [hset]
      intro j oj hj hl e he hb
      by_cases e1 : j = i
      · subst e1
        obtain rfl : o = oj := Option.some.inj (ho.symm.trans hj)
        simp [hd e he hb]
      · have := hclo j oj hj (by simpa [e1] using hl) e he hb
        simp only [this, Bool.or_true]
    · have e2 : ((List.range ops.size).filter fun j => !(listed.setIfInBounds i true).getD j false) = ((List.range ops.size).filter fun j => !listed.getD j false).filter fun j => !decide (j = i) := by
        rw [List.filter_filter]
        congr 1
        funext j
        have := congrFun hset j
        rw [this]
        cases decide (j = i) <;> cases listed.getD j false <;> rfl
      have e3 : (((List.range ops.size).filter fun j => !listed.getD j false).filter fun j => !decide (j = i)).length < ((List.range ops.size).filter fun j => !listed.getD j false).length := by
        rw [List.length_filter_lt_length_iff_exists]
        exact ⟨i, List.mem_filter.2 ⟨List.mem_range.2 hlt, by simp [getD_both h0]⟩, by simp⟩
      rw [e2]
      omega

theorem wpIn_region_inv (I : (Nat → Bool) → Act → World → Prop) {id : Nat} {a : Act} {w : World} (hm : P.follows .mixedOrders = true) (hback : backB ops = true)
    (h0 : I (fun _ => false) a w.drew)
    (hstep : ∀ L i o a w, Clo ops L → I L a w → ops[i]? = some o → L i = false → (∀ e ∈ o.after, Region.binds .any e = true → L e.on = true) → wpOpIn F n P ops Q i (fun a' w' => I (fun j => decide (j = i) || L j) a' w') a w)
    (hend : ∀ L a w, (∀ i, i < ops.size → L i = true) → I L a w → Q .normal a w) : (Code.region id ops true).wpIn F n P Q a w := by
  have e : (fun j => (Array.replicate ops.size false).getD j false) = (fun _ => false) := funext fun j => getD_replicate_false _ _
  refine wpIn_region_any hm (wpAnyIn_inv I hback hstep hend ops.size _ a w.drew (by simp) ?_ (by rw [e]; exact h0) (Nat.le_trans (List.length_filter_le _ _) (by simp)))
  rw [e]
  intro j oj _ h
  cases h

/-- What a calm operation leaves. -/
def calmUpon (o : Oper) (a : Act) (K : Act → World → Prop) : Result Next → Prop
  | .ok (.value v) w' => K (a.put o.dst v) w'
  | .ok .skip w' => K (a.put o.dst undef) w'
  | _ => False
theorem calmUpon_by {o : Oper} {a : Act} {I : Act → World → Prop} {r : Result Next} (h : ∀ K : Act → World → Prop, (∀ a w, I a w → K a w) → calmUpon o a K r) : calmUpon o a I r := h _ (fun _ _ h => h)
attribute [local go_sem] calmUpon
theorem wpOpIn_calm {i : Nat} {o : Oper} {a : Act} {w : World} {K : Act → World → Prop} (ho : ops[i]? = some o) (hc : calm o = true) (hg : o.guard = none)
    (h : calmUpon o a K ((execOp a.eval o).run P w)) : wpOpIn F n P ops Q i K a w := by
  unfold wpOpIn
  simp only [ho]
  have hw : Region.wanted o (yielded ops a.tmps) = true := by unfold Region.wanted; rw [hg]
  rw [if_pos hw]
  refine ⟨fun f hf => (by rw [calm_about hc] at hf; cases hf), ?_⟩
  rw [calm_sem hc]
  cases hr : (execOp a.eval o).run P w with
  | ok nx w' =>
    rw [hr] at h
    cases nx <;> simp only [calmUpon] at h
    case value v => exact h
    case skip => exact h
  | halt x w' => rw [hr] at h; simp only [calmUpon] at h

/-- The law is kept by each operation, whose own have gone ahead. -/
def StepsOk (F : Fence) (n : Nat) (P : Program) (ops : Array Oper) (Q : Exit → Act → World → Prop) (I : (Nat → Bool) → Act → World → Prop) : List Oper → Nat → Prop
  | [], _ => True
  | o :: l, i => (∀ L a w, Clo ops L → I L a w → L i = false → (∀ e ∈ o.after, Region.binds .any e = true → L e.on = true) → calmUpon o a (fun a' w' => I (fun j => decide (j = i) || L j) a' w') ((execOp a.eval o).run P w)) ∧ StepsOk F n P ops Q I l (i + 1)
theorem stepsOk_at {I : (Nat → Bool) → Act → World → Prop} : ∀ (l : List Oper) (k : Nat), (∀ j, l[j]? = ops[k + j]?) → (∀ o ∈ l, calm o = true ∧ o.guard = none) → StepsOk F n P ops Q I l k →
    ∀ i o, k ≤ i → ops[i]? = some o → ∀ L a w, Clo ops L → I L a w → L i = false → (∀ e ∈ o.after, Region.binds .any e = true → L e.on = true) → wpOpIn F n P ops Q i (fun a' w' => I (fun j => decide (j = i) || L j) a' w') a w := by
  intro l
  induction l with
  | nil =>
    intro k hl _ _ i o hk ho
    have := hl (i - k)
    rw [show k + (i - k) = i by omega, ho] at this
    cases this
  | cons x l ih =>
    intro k hl hc h i o hk ho
    by_cases e : i = k
    · subst e
      have h0 := hl 0
      rw [List.getElem?_cons_zero, Nat.add_zero, ho] at h0
      obtain rfl := Option.some.inj h0
      intro L a w h1 h2 h3 h4
      exact wpOpIn_calm ho (hc x List.mem_cons_self).1 (hc x List.mem_cons_self).2 (h.1 L a w h1 h2 h3 h4)
    · refine ih (k + 1) (fun j => ?_) (fun o ho => hc o (List.mem_cons_of_mem _ ho)) h.2 i o (by omega) ho
      have := hl (j + 1)
      rw [List.getElem?_cons_succ] at this
      rw [this]
      congr 1
      omega
def calmG (o : Oper) : Bool := calm o && o.guard.isNone
theorem wpIn_region_steps (I : (Nat → Bool) → Act → World → Prop) {id : Nat} {a : Act} {w : World} {l : List Oper} (hm : P.follows .mixedOrders = true) (hB : (backB l.toArray && l.all calmG) = true)
    (h0 : I (fun _ => false) a w.drew) (hs : StepsOk F n P l.toArray Q I l 0)
    (hend : ∀ L a w, (∀ i, i < l.length → L i = true) → I L a w → Q .normal a w) : (Code.region id l.toArray true).wpIn F n P Q a w := by
  rw [Bool.and_eq_true] at hB
  have hc : ∀ o ∈ l, calm o = true ∧ o.guard = none := fun o ho => by
    have := List.all_eq_true.1 hB.2 o ho
    unfold calmG at this
    simpa using this
  refine wpIn_region_inv I hm hB.1 h0 (fun L i o a w h1 h2 h3 h4 h5 => ?_) (fun L a w hL => hend L a w (fun i hi => hL i (by simpa using hi)))
  exact stepsOk_at (ops := l.toArray) l 0 (fun j => by simp) hc hs i o (Nat.zero_le _) h3 L a w h1 h2 h4 h5
end
end Go.Proofs.Ytclblidfamabdaa

/- A region that draws its order, in a round too: a law of what is done so far, whatever the order; calls of built-in functions among the steps. -/
set_option linter.unusedVariables false
set_option linter.unusedSimpArgs false
namespace Go.Proofs.Ytclblidfamabdaa
open Go

section
variable {F : Fence} {n : Nat} {P : Program} {ops : Array Oper} {Q : Exit → Act → World → Prop}
/-- The law is kept by each operation, whose own have gone ahead. -/
def StepsW (F : Fence) (n : Nat) (P : Program) (ops : Array Oper) (Q : Exit → Act → World → Prop) (I : (Nat → Bool) → Act → World → Prop) : List Oper → Nat → Prop
  | [], _ => True
  | o :: l, i => (∀ L a w, Clo ops L → I L a w → L i = false → (∀ e ∈ o.after, Region.binds .any e = true → L e.on = true) → ∀ K : Act → World → Prop, (∀ a' w', I (fun j => decide (j = i) || L j) a' w' → K a' w') → Oper.wpIn F n P o a w K Q) ∧ StepsW F n P ops Q I l (i + 1)
theorem stepsW_at {I : (Nat → Bool) → Act → World → Prop} : ∀ (l : List Oper) (k : Nat), (∀ j, l[j]? = ops[k + j]?) → (∀ o ∈ l, o.guard = none) → StepsW F n P ops Q I l k →
    ∀ i o, k ≤ i → ops[i]? = some o → ∀ L a w, Clo ops L → I L a w → L i = false → (∀ e ∈ o.after, Region.binds .any e = true → L e.on = true) → wpOpIn F n P ops Q i (fun a' w' => I (fun j => decide (j = i) || L j) a' w') a w := by
  intro l
  induction l with
  | nil =>
    intro k hl _ _ i o hk ho
    have := hl (i - k)
    rw [show k + (i - k) = i by omega, ho] at this
    cases this
  | cons x l ih =>
    intro k hl hc h i o hk ho
    by_cases e : i = k
    · subst e
      have h0 := hl 0
      rw [List.getElem?_cons_zero, Nat.add_zero, ho] at h0
      obtain rfl := Option.some.inj h0
      intro L a w h1 h2 h3 h4
      refine wpOpIn_step ho (fun K hK => ?_)
      have hw : Region.wanted x (yielded ops a.tmps) = true := by unfold Region.wanted; rw [hc x List.mem_cons_self]
      rw [if_pos hw]
      exact h.1 L a w h1 h2 h3 h4 K hK
    · refine ih (k + 1) (fun j => ?_) (fun o ho => hc o (List.mem_cons_of_mem _ ho)) h.2 i o (by omega) ho
      have := hl (j + 1)
      rw [List.getElem?_cons_succ] at this
      rw [this]
      congr 1
      omega
theorem wpIn_region_w (I : (Nat → Bool) → Act → World → Prop) {id : Nat} {a : Act} {w : World} {l : List Oper} (hm : P.follows .mixedOrders = true) (hB : (backB l.toArray && l.all (fun o => o.guard.isNone)) = true)
    (h0 : I (fun _ => false) a w.drew) (hs : StepsW F n P l.toArray Q I l 0)
    (hend : ∀ L a w, (∀ i, i < l.length → L i = true) → I L a w → Q .normal a w) : (Code.region id l.toArray true).wpIn F n P Q a w := by
  rw [Bool.and_eq_true] at hB
  have hc : ∀ o ∈ l, o.guard = none := fun o ho => by
    have := List.all_eq_true.1 hB.2 o ho
    simpa using this
  refine wpIn_region_inv I hm hB.1 h0 (fun L i o a w h1 h2 h3 h4 h5 => ?_) (fun L a w hL => hend L a w (fun i hi => hL i (by simpa using hi)))
  exact stepsW_at (ops := l.toArray) l 0 (fun j => by simp) hc hs i o (Nat.zero_le _) h3 L a w h1 h2 h4 h5
/-- An append whose run is known. -/
theorem append_in {o : Oper} {a : Act} {w : World} {K : Act → World → Prop} {R : Value → World → Prop} (hgd : o.guard = none) (s x : Operand) (t : TypeId)
    (ho : o.op = .call { callee := .builtin .append, args := #[s, x], argTypes := #[t, t] }) (v xv : Value) (hs : a.eval s = v) (hx : a.eval x = xv)
    (hr : ∃ v' w', (Builtin.append_ #[t, t] o.type #[v, xv]).run P w = .ok v' w' ∧ R v' w') (h : ∀ v' w', R v' w' → K (a.put o.dst v') w') : Oper.wpIn F n P o a w K Q := by
  have hw : Region.wanted o (yielded (#[] : Array Oper) a.tmps) = true := by simp [Region.wanted, hgd]
  have := step_append_in (F := F) (n := n) (P := P) (w := w) (ops := #[]) (Q := Q) (E := True) hgd s x t ho v xv hs hx hr h
  rwa [if_pos hw] at this
end
end Go.Proofs.Ytclblidfamabdaa

/- bidi.Visual. -/
set_option linter.unusedVariables false
set_option linter.unusedSimpArgs false
namespace Go.Proofs.Ytclblidfamabdaa
open Go.RowKit Go.Shelf Go.Lib Go.BigFrame
attribute [local go_sem] Oper.semAt_some

def partS (s : ByteArray) (k : Nat) : ByteArray := s.extract (C.atF (U.toks s.data.toList) k) (C.atF (U.toks s.data.toList) (k + 1))
def ptV (s : ByteArray) (k : Nat) : List Value := (List.range k).map fun j => .string (partS s j)
theorem ptV_succ (s : ByteArray) (k : Nat) : ptV s (k + 1) = ptV s k ++ [.string (partS s k)] := by simp [ptV, List.range_succ]
theorem Try.infoS : (Try.prog.info? 9).map (fun i => (i.zero, i.size, i.bytes)) = some (some (.string ⟨#[]⟩), 1, 16) := by kernel_rfl

set_option maxRecDepth 1000000 in
set_option maxHeartbeats 4000000 in
theorem visual_any (s : ByteArray) (base : Nat) (hbase : base = 0 ∨ base = 1) (w : World) (hs : s.size ≤ 4194304) :
    Calls Try.prog 25 #[.string s, .int .i64 (base : Int)] w fun e w' => e = .returned (.tuple #[.string (visV s base).1, .int .i64 ((visV s base).2 : Int)]) ∧ Below w.heap.size w w' := by
  obtain ⟨R1, R2, hR⟩ : ∃ R1 R2, visV s base = (R1, R2) := ⟨_, _, rfl⟩
  rw [hR]
  have hlen : (C.clus (U.toks s.data.toList)).length ≤ s.size := Nat.le_trans (C.clus_length_le _) toks_len
  have hlw := U.wsum_toks s.data.toList
  rw [← U.size_eq] at hlw
  have hll := toks_len (s := s)
  obtain ⟨n, hn⟩ : ∃ n, (C.clus (U.toks s.data.toList)).length = n := ⟨_, rfl⟩
  obtain ⟨c, hc⟩ : ∃ c, B.kcl (U.toks s.data.toList) = c := ⟨_, rfl⟩
  have LV := Lib.hid (fun w => levels_any s base hbase w hs n hn c hc)
  have CLU := Lib.hid (fun W Bn (h : W.cell? ⟨Bn, 0, none⟩ = some (.string s)) => clusters_in s hs Bn W h)
  have HV : Hid (∀ R1 R2, visV s base = (R1, R2) → (B.line (U.toks s.data.toList) = false → R1 = ⟨#[]⟩ ∧ R2 = 24) ∧ (B.line (U.toks s.data.toList) = true → R1 = ⟨(textB (B.visR (U.toks s.data.toList) (B.lvAll base c n) n n)).toArray⟩ ∧ R2 = 0)) := Lib.hid (fun R1 R2 h => by
    unfold visV at h
    simp only [hn, hc] at h
    constructor
    · intro hl; rw [hl] at h; simp at h; exact ⟨h.1.symm, h.2.symm⟩
    · intro hl; rw [hl] at h; simp at h; exact ⟨h.1.symm, h.2.symm⟩)
  have HV2 := Lib.hid (HV.out _ _ hR)
  rw [hn] at hlen
  have HN := Lib.hid (And.intro hn hc)
  clear hR hn hc HV
  have HT0 : Hid (U.toks (s.data.toList.drop 0) = U.toks s.data.toList) := Lib.hid (by rw [List.drop_zero])
  obtain ⟨l, hl⟩ : ∃ l, U.toks s.data.toList = l := ⟨_, rfl⟩
  rw [hl] at hlw hll HV2 HT0
  have HL := Lib.hid hl
  clear hl
  refine (callsIn_wide (n := 0)).1 (callsIn_of_wp_marks Try.func25 rfl trivial (wpIn_wide.2 ?_) rfl)
  simp only [Try.ntmps25, List.size_toArray, List.length_cons, List.length_nil, Nat.reduceAdd, Nat.reduceSub, Array.replicate_succ, Array.replicate_zero, List.push_toArray, List.append_toArray, List.nil_append, List.cons_append]
  go_wp2_with (first
    | (go_at_call 18; (with_reducible refine (LV.out _).mono ?_); rintro e w1 ⟨lv, rfl, hb1, hr1⟩; have bx1 : w1.cell? ⟨w.heap.size, 0, none⟩ = some (.string s) := (World.cell?_of_block (hb1.block _ (by simp))).trans (cell_new w (.string s) 9).1))
  have hz1 := hb1.size
  simp only [World.size_alloc] at hz1
  have HB1 := Lib.hid hb1
  have HR1 := Lib.hid hr1
  have HBX := Lib.hid bx1
  clear hb1 hr1 bx1
  go_loopw [] (fun wr => ∃ k : Nat, k ≤ l.length ∧ C.pl l k ≤ s.size ∧ wr = w1.iter s (C.pl l k) ∧ Hid (U.toks (s.data.toList.drop (C.pl l k)) = l.drop k) ∧ Hid (∀ j t, j < k → l[j]? = some t → B.cls (t.1 : Int) ≠ 1)) (fun wr => s.size - wr.iterPos w1.heap.size)
  case atStart => exact ⟨0, Nat.zero_le _, Nat.zero_le _, rfl, HT0, Lib.hid (fun j t h => absurd h (Nat.not_lt_zero _))⟩
  case round =>
    obtain ⟨k, hk, hps, rfl, hH, hno⟩ := hrel
    by_cases hp : C.pl l k < s.size
    · obtain ⟨ch, wd, hdec, hlt, hlk, hpl, hnt, hwd, hpw⟩ := tok_step s l k hk hH.out hp
      have hnx : ∀ ty, (Instr.next (.pointer (some ⟨w1.heap.size, 0, none⟩)) true ty).run Try.prog (w1.iter s (C.pl l k)) = _ := fun ty => run_next_any w1 s (C.pl l k) ty hp
      rw [hdec] at hnx
      simp only at hnx
      obtain ⟨K, hK⟩ : ∃ K, B.cls (ch : Int) = K := ⟨_, rfl⟩
      have HX := Lib.hid (And.intro hdec (And.intro hlk (And.intro hpl (And.intro hnt (And.intro hwd hK)))))
      have CA : Hid (∀ W, Calls Try.prog 12 #[.int .i32 (ch : Int)] W fun e w' => e = .returned (.int .i64 (K : Int)) ∧ W = w') := Lib.hid (fun W => hK ▸ class_any (ch : Int) W)
      have HPW := Lib.hid hpw
      clear hdec hlk hpl hnt hwd hK hH hlt hpw
      by_cases h1 : K = 1
      · subst h1
        have hfl : B.line l = false := by
          cases h : B.line l with
          | false => rfl
          | true =>
            have := List.all_eq_true.1 h _ (List.mem_of_getElem? HX.out.2.1)
            simp [HX.out.2.2.2.2.2] at this
        obtain ⟨rfl, rfl⟩ := HV2.out.1 hfl
        clear hfl
        go_wp2_with (go_at_call 12; (with_reducible refine (CA.out _).mono ?_); rintro e w2 ⟨rfl, rfl⟩)
        exact ⟨_, results_tmp2 rfl _ _ _, rfl, by
          have h1 : Below w.heap.size w w1 := ((Below.refl _ _).alloc (Nat.le_refl _) _).trans (HB1.out.mono (by simp))
          exact h1.alloc h1.size _⟩
      · have hb : ((K : Int) == 1) = false := by simp; omega
        go_wp2_with (go_at_call 12; (with_reducible refine (CA.out _).mono ?_); rintro e w2 ⟨rfl, rfl⟩)
        go_roundw
        case rel =>
          obtain ⟨q1, q2, q3, q4, q5, q6⟩ := HX.out
          have hkl := (List.getElem?_eq_some_iff.1 q2).1
          refine ⟨k + 1, hkl, by rw [q3]; have := HPW.out; omega, by rw [q3], Lib.hid q4, Lib.hid (fun j t hj ht => ?_)⟩
          rcases Nat.lt_or_ge j k with h | h
          · exact hno.out j t h ht
          · obtain rfl : j = k := by omega
            rw [q2] at ht
            obtain rfl := Option.some.inj ht
            rw [q6]; exact h1
        case measure =>
          have := HPW.out
          have := HX.out.2.2.2.2.1
          simp
          omega
    · have hnx : ∀ ty, (Instr.next (.pointer (some ⟨w1.heap.size, 0, none⟩)) true ty).run Try.prog (w1.iter s (C.pl l k)) = _ := fun ty => run_next_end w1 s (C.pl l k) ty hp
      have hkl : k = l.length := by
        have := hH.out
        rw [toks_end hp] at this
        have := congrArg List.length this
        rw [List.length_drop] at this
        simp at this
        omega
      have hln : B.line l = true := by
        unfold B.line
        rw [List.all_eq_true]
        intro t ht
        obtain ⟨j, hj, e⟩ := List.mem_iff_getElem.1 ht
        have := hno.out j t (by omega) (by rw [List.getElem?_eq_getElem hj, e])
        simpa using this
      obtain ⟨hv1, rfl⟩ := HV2.out.2 hln
      have HV := Lib.hid hv1
      have hA : Below w.heap.size w (w1.iter s (C.pl l k)) := by
        have h1 : Below w.heap.size w w1 := ((Below.refl _ _).alloc (Nat.le_refl _) _).trans (HB1.out.mono (by simp))
        exact h1.alloc h1.size _
      have hA1 : Below w1.heap.size w1 (w1.iter s (C.pl l k)) := (Below.refl _ _).alloc (Nat.le_refl _) _
      have hAx : (w1.iter s (C.pl l k)).heap.size = w1.heap.size + 1 := by simp [World.iter]
      obtain ⟨A1, hA1e⟩ : ∃ A, w1.iter s (C.pl l k) = A := ⟨_, rfl⟩
      rw [hA1e] at hnx hA hA1 hAx ⊢
      have bA : A1.cell? ⟨w.heap.size, 0, none⟩ = some (.string s) := (World.cell?_of_block (hA1.block _ (by show w.heap.size < _; omega))).trans HBX.out
      have bAo : ∀ o, (A1.alloc o).cell? ⟨w.heap.size, 0, none⟩ = some (.string s) := fun o => (World.cell?_of_block (Below.heap_alloc _ _ _ (by show w.heap.size < _; omega))).trans bA
      have hrA := own_below HR1.out hA1
      have HA := Lib.hid (And.intro hA (And.intro hrA hAx))
      obtain ⟨za, hza⟩ : ∃ z, A1.heap.size = z := ⟨_, rfl⟩
      have HZ := Lib.hid hza
      have HBA := Lib.hid bA
      clear hkl hln hv1 hA hA1 hAx hA1e hrA bA hza hno hH
      go_wp2_with (go_at_call 47; refine (clusters_call _ _).mono ?_; rintro e w' ⟨rfl, rfl⟩)
      obtain ⟨W0, hW0⟩ : ∃ W0, (A1.alloc (.cells #[.slice none 0 0] 70)).alloc (.cells #[.string s] 9) = W0 := ⟨_, rfl⟩
      rw [hW0]
      have hz : W0.heap.size = A1.heap.size + 2 := by rw [← hW0]; simp
      have hb0 : W0.heap[A1.heap.size]? = some (.cells #[.slice none 0 0] 70 (0, 0)) := by
        rw [← hW0]; exact (Below.heap_alloc _ _ _ (by simp)).trans (World.alloc_heap_new A1 _)
      have hb1 : W0.cell? ⟨A1.heap.size + 1, 0, none⟩ = some (.string s) := by
        rw [← hW0]
        have := (cell_new (A1.alloc (.cells #[.slice none 0 0] 70)) (.string s) 9).1
        rw [World.size_alloc] at this
        exact this
      have hbel : Below A1.heap.size A1 W0 := by rw [← hW0]; exact ((Below.refl _ _).alloc (Nat.le_refl _) _).alloc (by simp) _
      clear hW0
      refine wp_rf W0 rfl enters_clusters (CLU.out W0 (A1.heap.size + 1) hb1) (Fr.refl _ _) (fun k h => by omega) (fun _ => rfl)
        (fun pre W => Coll A1 A1.heap.size 70 9 1 (W0.heap.size + 8) pre.length (ptV s pre.length) W) (fun _ _ _ => False) ?hI (fun _ _ _ _ _ h => h) ?h0 ?round ?done ?stop
      case hI =>
        rintro pre A B hf h
        exact h.fr (lo := W0.heap.size) (hi := W0.heap.size + 8) (by omega) (by omega) h.size (Nat.le_refl _) hf
      case h0 => exact ⟨hbel, _, hb0, World.ownsRow_nil _ _ _ _⟩
      case round =>
        rintro pre x post W hx hsz ⟨hB, v, hv, hrow⟩
        have hpl2 : pre.length ≤ 4194304 := by have := congrArg List.length hx; rw [HN.out.1] at this; simp at this; omega
        have hxk : (C.clus (U.toks s.data.toList))[pre.length]? = some x := by rw [hx]; simp
        obtain ⟨e1, e2, e3, e4, e5, e6, e7, e8, e9, e10⟩ := C.clus_steps _ (C.toks_14 _) pre.length x hxk
        have hal : x.at_ + x.len ≤ s.size := by rw [HL.out] at e10 e4 e1; omega
        obtain ⟨part, hpart⟩ : ∃ p, s.extract x.at_ (x.at_ + x.len) = p := ⟨_, rfl⟩
        have HPT : Hid (partS s pre.length = part) := Lib.hid (by unfold partS; rw [← e4, ← e1]; exact hpart)
        have hsl : ∀ W : World, (Instr.slice 9 (.string s) (some (.int .i64 (x.at_ : Int))) (some (.int .i64 ((x.at_ : Int) + (x.len : Int)))) none).run Try.prog W = .ok (.string part) W := fun W => by
          rw [run_slice_string_if W 9 s .i64 .i64 (x.at_ : Int) ((x.at_ : Int) + (x.len : Int)) Try.underlying9, if_pos ⟨by omega, by omega⟩, if_pos ⟨by omega, by omega⟩, show (x.at_ : Int).toNat = x.at_ by omega, show ((x.at_ : Int) + (x.len : Int)).toNat = x.at_ + x.len by omega, hpart]
        clear hx hxk e1 e2 e3 e4 e5 e6 e7 e8 e9 e10 hpart
        unfold encC
        gi_wp2
        refine ⟨(Fr.refl _ _).alloc _, fun W3 hf3 hs3 hr3 => ?_⟩
        have hlt := (Array.getElem?_eq_some_iff.1 hv).1
        have hx3 : W3.heap[W.heap.size]? = some (.cells #[.int .i64 (x.at_ : Int), .int .i64 (x.len : Int), .int .i64 (x.frm : Int), .int .i64 (x.to_ : Int), .int .i64 (x.cells : Int)] 75 (0, 0)) := rx_new hf3 (by omega)
        have hv3 : W3.heap[A1.heap.size]? = some (.cells #[v] 70 (0, 0)) := rx_old hf3 hv (by omega)
        have hrow3 : W3.ownsRow (W0.heap.size + 8) 9 1 v pre.length (ptV s pre.length) := ownsRow_fr (hrow.alloc _) hf3 (fun k hk => by omega)
        have hB3 : Below A1.heap.size A1 W3 := (hB.alloc hB.size _).trans (hf3.toBelow (fun k hk => by omega) (by simp; have := hB.size; omega))
        have hz3 : W.heap.size + 1 = W3.heap.size := by rw [hs3]; simp
        have c0 : W3.cell? ⟨W.heap.size, 0, none⟩ = some (.int .i64 (x.at_ : Int)) := by simp [World.cell?, hx3]
        have c1 : W3.cell? ⟨W.heap.size, 1, none⟩ = some (.int .i64 (x.len : Int)) := by simp [World.cell?, hx3]
        have hbs : W0.heap.size + 8 ≤ W3.heap.size := by omega
        have HW3 := Lib.hid (And.intro hB3 (And.intro hv3 hrow3))
        clear hf3 hs3 hr3 hx3 hB hv hrow hlt hv3 hrow3 hB3
        gi_wp2
        -- REGION12
        have HWR : Hid (IntKind.i64.wrap ((x.at_ : Int) + (x.len : Int)) = (x.at_ : Int) + (x.len : Int)) := Lib.hid (by unfold IntKind.wrap; simp [IntKind.bits, IntKind.signed]; omega)
        obtain ⟨hB3, hv3, hrow3⟩ := HW3.out
        have hA3 : Below W3.heap.size W3 (W3.drew.alloc (.cells #[.string part] 9)) := ((Below.refl _ _).drew).alloc (Nat.le_refl _) _
        let RR : Value → World → Prop := fun v' wa => wa.ownsRow (W0.heap.size + 8) 9 1 v' (pre.length + 1) (ptV s pre.length ++ [.string part]) ∧ (W3.drew.alloc (.cells #[.string part] 9)).grownBy wa v.ownBlock
        obtain ⟨Y0, hY0⟩ : ∃ Y, W3.drew = Y := ⟨_, rfl⟩
        obtain ⟨Y1, hY1⟩ : ∃ Y, W3.drew.alloc (.cells #[.string part] 9) = Y := ⟨_, rfl⟩
        have HY0 := Lib.hid hY0
        have HY1 := Lib.hid hY1
        have APP : Hid (∃ v' w', (Builtin.append_ #[70, 70] 70 #[v, .slice (some ⟨W3.heap.size, 0, none⟩) 1 1]).run Try.prog Y1 = .ok v' w' ∧ RR v' w') := Lib.hid (by
          obtain ⟨i0, hi, hz0, hz1, hz2⟩ := info_parts Try.infoS
          rw [← hY1]
          obtain ⟨v', w', h1, h2, h3, _⟩ := run_append_own (P := Try.prog) (W3.drew.alloc (.cells #[.string part] 9)) (W0.heap.size + 8) 70 70 9 i0 _ 1 16 Try.underlying70 hi hz0 hz1 hz2 rfl (by decide) v pre.length (ptV s pre.length) ((show W3.drew.ownsRow _ _ _ _ _ _ from hrow3).alloc _) ⟨W3.heap.size, 0, none⟩ 1 1 [.string part] rfl (World.news_of_block (World.alloc_heap_new W3.drew _)) (by simp [Value.oneCell']) (by unfold maxLen; omega) (by omega) (by simp; omega)
          exact ⟨v', w', h1, h2, h3⟩)
        let FIN : World → Prop := fun Y => Coll A1 A1.heap.size 70 9 1 (W0.heap.size + 8) (pre.length + 1) (ptV s pre.length ++ [.string part]) Y ∧ Fr (fun k => k = A1.heap.size + 1 ∨ W0.heap.size ≤ k ∧ k < W0.heap.size + 2 + 6) W3 Y
        have KF : Hid (∀ v' wa, RR v' wa → FIN (wa.setCell ⟨A1.heap.size, 0, none⟩ v') ∧ wa.heap[A1.heap.size]? = some (.cells #[v] 70 (0, 0))) := Lib.hid (fun v' wa h => by
          have := Coll.append (S := fun k => k = A1.heap.size + 1 ∨ W0.heap.size ≤ k ∧ k < W0.heap.size + 2 + 6) hB3 hv3 hrow3 (by omega) (by omega) (Fr.of_below hA3 (fun k hk _ => hk)) hA3 h.1 h.2 (fun k hk => by omega)
          exact ⟨⟨this.1, this.2.1⟩, this.2.2⟩)
        have cb : W3.cell? ⟨w.heap.size, 0, none⟩ = some (.string s) := (World.cell?_of_block (hB3.block _ (World.block_lt_of_cell? _ _ HBA.out))).trans HBA.out
        have HC0 : Hid (Y0.cell? ⟨A1.heap.size, 0, none⟩ = some v ∧ Y0.cell? ⟨w.heap.size, 0, none⟩ = some (.string s) ∧ Y0.cell? ⟨W.heap.size, 0, none⟩ = some (.int .i64 (x.at_ : Int)) ∧ Y0.cell? ⟨W.heap.size, 1, none⟩ = some (.int .i64 (x.len : Int))) := Lib.hid (by
          rw [← hY0]; exact ⟨(cell_of_block hv3).1, cb, c0, c1⟩)
        have HC1 : Hid (Y1.cell? ⟨A1.heap.size, 0, none⟩ = some v) := Lib.hid (by
          rw [← hY1]
          have h := (cell_of_block hv3).1
          exact (World.cell?_of_block (hA3.block _ (World.block_lt_of_cell? _ _ h))).trans h)
        have FINo : Hid (∀ Y, FIN Y → Fr (fun k => (k = A1.heap.size + 1) ∨ (W0.heap.size ≤ k ∧ k < W0.heap.size + 2 + 6)) W3 Y ∧ Coll A1 A1.heap.size 70 9 1 (W0.heap.size + 8) (pre ++ [x]).length (ptV s (pre ++ [x]).length) Y) := Lib.hid (fun Y h => ⟨h.2, by rw [List.length_append, show [x].length = 1 from rfl, ptV_succ, HPT.out]; exact h.1⟩)
        clear hB3 hv3 hrow3 hA3 cb c0 c1 hY0 hY1
        refine wpIn_region_w (fun L A Y => ∃ x0 x1 x2 x3 x4 x5 x6 x7 x8 x9 x10 x11, A = { tmps := #[.string s, .int .i64 (base : Int), .pointer (some ⟨w.heap.size, 0, none⟩), undef, u4, u5, lv, .int .i64 0, undef, u9, .pointer (some ⟨A1.heap.size, 0, none⟩), .pointer (some ⟨W.heap.size, 0, none⟩), undef, undef, undef, undef, undef, .tuple #[lv, .int .i64 0], .string s, .int .i64 (base : Int), .tuple #[lv, .int .i64 0], lv, .int .i64 0, .int .i64 0, .bool false, undef, .string s, .pointer (some ⟨w1.heap.size, 0, none⟩), .tuple #[.bool false], .bool false, u30, u31, u32, u33, .string s, .func (.func 68) #[] #[.pointer (some ⟨A1.heap.size + 1, 0, none⟩)], .agg #[.int .i64 (x.at_ : Int), .int .i64 (x.len : Int), .int .i64 (x.frm : Int), .int .i64 (x.to_ : Int), .int .i64 (x.cells : Int)], x0, x1, x2, x3, x4, x5, x6, x7, x8, x9, x10, x11, undef, undef, undef, undef, undef, undef, undef, undef, undef, undef, undef, undef, undef, undef, undef, undef, undef, undef, undef, undef, undef, undef, undef, undef, undef, undef, undef, undef, undef, undef, undef, undef, undef, undef, undef], defers := [] } ∧ (L 0 = true → x0 = v) ∧ (L 1 = true → x1 = .string s) ∧ (L 2 = true → x2 = .pointer (some ⟨W.heap.size, 0, none⟩)) ∧ (L 3 = true → x3 = .int .i64 (x.at_ : Int)) ∧ (L 4 = true → x4 = .pointer (some ⟨W.heap.size, 0, none⟩)) ∧ (L 5 = true → x5 = .int .i64 (x.at_ : Int)) ∧ (L 6 = true → x6 = .pointer (some ⟨W.heap.size, 1, none⟩)) ∧ (L 7 = true → x7 = .int .i64 (x.len : Int)) ∧ (L 8 = true → x8 = .int .i64 ((x.at_ : Int) + (x.len : Int))) ∧ (L 9 = true → x9 = .string part) ∧ (L 10 = true → x10 = .slice (some ⟨W3.heap.size, 0, none⟩) 1 1) ∧ (L 10 = false → Y = Y0) ∧ (L 10 = true → L 11 = false → Y = Y1) ∧ (L 11 = true → L 12 = false → RR x11 Y) ∧ (L 12 = true → FIN Y)) (by kernel_rfl) (by kernel_rfl) ?_ ⟨?_, ?_, ?_, ?_, ?_, ?_, ?_, ?_, ?_, ?_, ?_, ?_, ?_, trivial⟩ ?_
        · exact ⟨_, _, _, _, _, _, _, _, _, _, _, _, rfl, nofun, nofun, nofun, nofun, nofun, nofun, nofun, nofun, nofun, nofun, nofun, fun _ => HY0.out, nofun, nofun, nofun⟩
        · rintro L A Y hclo ⟨x0, x1, x2, x3, x4, x5, x6, x7, x8, x9, x10, x11, rfl, i0, i1, i2, i3, i4, i5, i6, i7, i8, i9, i10, k0, k1, k2, k3⟩ hi hd K hK
          have h11 : L 11 = false := by
            cases h : L 11 with
            | false => rfl
            | true => exact absurd ((hclo 11 _ rfl h ⟨0, .data⟩ (by simp) rfl) : L 0 = true) (by rw [hi]; exact Bool.false_ne_true)
          have bY : Y.cell? ⟨A1.heap.size, 0, none⟩ = some v := by
            cases h : L 10 with
            | false => rw [k0 h]; exact HC0.out.1
            | true => rw [k1 h h11]; exact HC1.out
          go_simp
          exact hK _ _ ⟨_, _, _, _, _, _, _, _, _, _, _, _, rfl, fun _ => rfl, i1, i2, i3, i4, i5, i6, i7, i8, i9, i10, k0, k1, fun h _ => absurd (h.symm.trans h11) (by simp), k3⟩
        · rintro L A Y hclo ⟨x0, x1, x2, x3, x4, x5, x6, x7, x8, x9, x10, x11, rfl, i0, i1, i2, i3, i4, i5, i6, i7, i8, i9, i10, k0, k1, k2, k3⟩ hi hd K hK
          have h10 : L 10 = false := by
            cases h : L 10 with
            | false => rfl
            | true => exact absurd ((hclo 9 _ rfl (hclo 10 _ rfl h ⟨9, .data⟩ (by simp) rfl) ⟨1, .data⟩ (by simp) rfl) : L 1 = true) (by rw [hi]; exact Bool.false_ne_true)
          obtain rfl := k0 h10
          obtain ⟨bY0, bY1, bY2, bY3⟩ := HC0.out
          go_simp
          exact hK _ _ ⟨_, _, _, _, _, _, _, _, _, _, _, _, rfl, i0, fun _ => rfl, i2, i3, i4, i5, i6, i7, i8, i9, i10, k0, k1, k2, k3⟩
        · rintro L A Y hclo ⟨x0, x1, x2, x3, x4, x5, x6, x7, x8, x9, x10, x11, rfl, i0, i1, i2, i3, i4, i5, i6, i7, i8, i9, i10, k0, k1, k2, k3⟩ hi hd K hK
          have h10 : L 10 = false := by
            cases h : L 10 with
            | false => rfl
            | true => exact absurd ((hclo 3 _ rfl (hclo 9 _ rfl (hclo 10 _ rfl h ⟨9, .data⟩ (by simp) rfl) ⟨3, .data⟩ (by simp) rfl) ⟨2, .data⟩ (by simp) rfl) : L 2 = true) (by rw [hi]; exact Bool.false_ne_true)
          obtain rfl := k0 h10
          go_simp
          exact hK _ _ ⟨_, _, _, _, _, _, _, _, _, _, _, _, rfl, i0, i1, fun _ => rfl, i3, i4, i5, i6, i7, i8, i9, i10, k0, k1, k2, k3⟩
        · rintro L A Y hclo ⟨x0, x1, x2, x3, x4, x5, x6, x7, x8, x9, x10, x11, rfl, i0, i1, i2, i3, i4, i5, i6, i7, i8, i9, i10, k0, k1, k2, k3⟩ hi hd K hK
          have g2 : L 2 = true := hd ⟨2, .data⟩ (by simp) rfl
          have h10 : L 10 = false := by
            cases h : L 10 with
            | false => rfl
            | true => exact absurd ((hclo 9 _ rfl (hclo 10 _ rfl h ⟨9, .data⟩ (by simp) rfl) ⟨3, .data⟩ (by simp) rfl) : L 3 = true) (by rw [hi]; exact Bool.false_ne_true)
          obtain rfl := k0 h10
          obtain rfl := i2 g2
          obtain ⟨bY0, bY1, bY2, bY3⟩ := HC0.out
          go_simp
          exact hK _ _ ⟨_, _, _, _, _, _, _, _, _, _, _, _, rfl, i0, i1, i2, fun _ => rfl, i4, i5, i6, i7, i8, i9, i10, k0, k1, k2, k3⟩
        · rintro L A Y hclo ⟨x0, x1, x2, x3, x4, x5, x6, x7, x8, x9, x10, x11, rfl, i0, i1, i2, i3, i4, i5, i6, i7, i8, i9, i10, k0, k1, k2, k3⟩ hi hd K hK
          have h10 : L 10 = false := by
            cases h : L 10 with
            | false => rfl
            | true => exact absurd ((hclo 5 _ rfl (hclo 8 _ rfl (hclo 9 _ rfl (hclo 10 _ rfl h ⟨9, .data⟩ (by simp) rfl) ⟨8, .data⟩ (by simp) rfl) ⟨5, .data⟩ (by simp) rfl) ⟨4, .data⟩ (by simp) rfl) : L 4 = true) (by rw [hi]; exact Bool.false_ne_true)
          obtain rfl := k0 h10
          go_simp
          exact hK _ _ ⟨_, _, _, _, _, _, _, _, _, _, _, _, rfl, i0, i1, i2, i3, fun _ => rfl, i5, i6, i7, i8, i9, i10, k0, k1, k2, k3⟩
        · rintro L A Y hclo ⟨x0, x1, x2, x3, x4, x5, x6, x7, x8, x9, x10, x11, rfl, i0, i1, i2, i3, i4, i5, i6, i7, i8, i9, i10, k0, k1, k2, k3⟩ hi hd K hK
          have g4 : L 4 = true := hd ⟨4, .data⟩ (by simp) rfl
          have h10 : L 10 = false := by
            cases h : L 10 with
            | false => rfl
            | true => exact absurd ((hclo 8 _ rfl (hclo 9 _ rfl (hclo 10 _ rfl h ⟨9, .data⟩ (by simp) rfl) ⟨8, .data⟩ (by simp) rfl) ⟨5, .data⟩ (by simp) rfl) : L 5 = true) (by rw [hi]; exact Bool.false_ne_true)
          obtain rfl := k0 h10
          obtain rfl := i4 g4
          obtain ⟨bY0, bY1, bY2, bY3⟩ := HC0.out
          go_simp
          exact hK _ _ ⟨_, _, _, _, _, _, _, _, _, _, _, _, rfl, i0, i1, i2, i3, i4, fun _ => rfl, i6, i7, i8, i9, i10, k0, k1, k2, k3⟩
        · rintro L A Y hclo ⟨x0, x1, x2, x3, x4, x5, x6, x7, x8, x9, x10, x11, rfl, i0, i1, i2, i3, i4, i5, i6, i7, i8, i9, i10, k0, k1, k2, k3⟩ hi hd K hK
          have h10 : L 10 = false := by
            cases h : L 10 with
            | false => rfl
            | true => exact absurd ((hclo 7 _ rfl (hclo 8 _ rfl (hclo 9 _ rfl (hclo 10 _ rfl h ⟨9, .data⟩ (by simp) rfl) ⟨8, .data⟩ (by simp) rfl) ⟨7, .data⟩ (by simp) rfl) ⟨6, .data⟩ (by simp) rfl) : L 6 = true) (by rw [hi]; exact Bool.false_ne_true)
          obtain rfl := k0 h10
          go_simp
          exact hK _ _ ⟨_, _, _, _, _, _, _, _, _, _, _, _, rfl, i0, i1, i2, i3, i4, i5, fun _ => rfl, i7, i8, i9, i10, k0, k1, k2, k3⟩
        · rintro L A Y hclo ⟨x0, x1, x2, x3, x4, x5, x6, x7, x8, x9, x10, x11, rfl, i0, i1, i2, i3, i4, i5, i6, i7, i8, i9, i10, k0, k1, k2, k3⟩ hi hd K hK
          have g6 : L 6 = true := hd ⟨6, .data⟩ (by simp) rfl
          have h10 : L 10 = false := by
            cases h : L 10 with
            | false => rfl
            | true => exact absurd ((hclo 8 _ rfl (hclo 9 _ rfl (hclo 10 _ rfl h ⟨9, .data⟩ (by simp) rfl) ⟨8, .data⟩ (by simp) rfl) ⟨7, .data⟩ (by simp) rfl) : L 7 = true) (by rw [hi]; exact Bool.false_ne_true)
          obtain rfl := k0 h10
          obtain rfl := i6 g6
          obtain ⟨bY0, bY1, bY2, bY3⟩ := HC0.out
          go_simp
          exact hK _ _ ⟨_, _, _, _, _, _, _, _, _, _, _, _, rfl, i0, i1, i2, i3, i4, i5, i6, fun _ => rfl, i8, i9, i10, k0, k1, k2, k3⟩
        · rintro L A Y hclo ⟨x0, x1, x2, x3, x4, x5, x6, x7, x8, x9, x10, x11, rfl, i0, i1, i2, i3, i4, i5, i6, i7, i8, i9, i10, k0, k1, k2, k3⟩ hi hd K hK
          have g5 : L 5 = true := hd ⟨5, .data⟩ (by simp) rfl
          have g7 : L 7 = true := hd ⟨7, .data⟩ (by simp) rfl
          have h10 : L 10 = false := by
            cases h : L 10 with
            | false => rfl
            | true => exact absurd ((hclo 9 _ rfl (hclo 10 _ rfl h ⟨9, .data⟩ (by simp) rfl) ⟨8, .data⟩ (by simp) rfl) : L 8 = true) (by rw [hi]; exact Bool.false_ne_true)
          obtain rfl := k0 h10
          obtain rfl := i5 g5
          obtain rfl := i7 g7
          go_simp
          exact hK _ _ ⟨_, _, _, _, _, _, _, _, _, _, _, _, rfl, i0, i1, i2, i3, i4, i5, i6, i7, fun _ => by rw [HWR.out], i9, i10, k0, k1, k2, k3⟩
        · rintro L A Y hclo ⟨x0, x1, x2, x3, x4, x5, x6, x7, x8, x9, x10, x11, rfl, i0, i1, i2, i3, i4, i5, i6, i7, i8, i9, i10, k0, k1, k2, k3⟩ hi hd K hK
          have g1 : L 1 = true := hd ⟨1, .data⟩ (by simp) rfl
          have g3 : L 3 = true := hd ⟨3, .data⟩ (by simp) rfl
          have g8 : L 8 = true := hd ⟨8, .data⟩ (by simp) rfl
          have h10 : L 10 = false := by
            cases h : L 10 with
            | false => rfl
            | true => exact absurd ((hclo 10 _ rfl h ⟨9, .data⟩ (by simp) rfl) : L 9 = true) (by rw [hi]; exact Bool.false_ne_true)
          obtain rfl := k0 h10
          obtain rfl := i1 g1
          obtain rfl := i3 g3
          obtain rfl := i8 g8
          go_simp
          exact hK _ _ ⟨_, _, _, _, _, _, _, _, _, _, _, _, rfl, i0, i1, i2, i3, i4, i5, i6, i7, i8, fun _ => rfl, i10, k0, k1, k2, k3⟩
        · rintro L A Y hclo ⟨x0, x1, x2, x3, x4, x5, x6, x7, x8, x9, x10, x11, rfl, i0, i1, i2, i3, i4, i5, i6, i7, i8, i9, i10, k0, k1, k2, k3⟩ hi hd K hK
          have g9 : L 9 = true := hd ⟨9, .data⟩ (by simp) rfl
          obtain rfl := k0 hi
          obtain rfl := i9 g9
          have n11 : L 11 = true → False := fun h => absurd ((hclo 11 _ rfl h ⟨10, .data⟩ (by simp) rfl) : L 10 = true) (by rw [hi]; exact Bool.false_ne_true)
          have n12 : L 12 = true → False := fun h => n11 (hclo 12 _ rfl h ⟨11, .data⟩ (by simp) rfl)
          rw [← HY0.out]
          go_simp
          refine hK _ _ ⟨_, _, _, _, _, _, _, _, _, _, _, _, rfl, i0, i1, i2, i3, i4, i5, i6, i7, i8, i9, fun _ => ?_, nofun, fun _ _ => ?_, fun h _ => (n11 h).elim, fun h => (n12 h).elim⟩
          · rfl
          · exact HY1.out
        · rintro L A Y hclo ⟨x0, x1, x2, x3, x4, x5, x6, x7, x8, x9, x10, x11, rfl, i0, i1, i2, i3, i4, i5, i6, i7, i8, i9, i10, k0, k1, k2, k3⟩ hi hd K hK
          have g0 : L 0 = true := hd ⟨0, .data⟩ (by simp) rfl
          have g10 : L 10 = true := hd ⟨10, .data⟩ (by simp) rfl
          obtain rfl := i0 g0
          obtain rfl := i10 g10
          have n12 : L 12 = true → False := fun h => absurd ((hclo 12 _ rfl h ⟨11, .data⟩ (by simp) rfl) : L 11 = true) (by rw [hi]; exact Bool.false_ne_true)
          obtain rfl := k1 g10 hi
          refine append_in (R := RR) (by rfl) (.tmp 37) (.tmp 47) 70 (by rfl) _ _ (by rfl) (by rfl) APP.out ?_
          intro v' wa hRR
          exact hK _ _ ⟨_, _, _, _, _, _, _, _, _, _, _, _, rfl, fun _ => rfl, i1, i2, i3, i4, i5, i6, i7, i8, i9, fun _ => rfl, fun h => absurd (g10.symm.trans h) (by simp), nofun, fun _ _ => hRR, fun h => (n12 h).elim⟩
        · rintro L A Y hclo ⟨x0, x1, x2, x3, x4, x5, x6, x7, x8, x9, x10, x11, rfl, i0, i1, i2, i3, i4, i5, i6, i7, i8, i9, i10, k0, k1, k2, k3⟩ hi hd K hK
          have g11 : L 11 = true := hd ⟨11, .data⟩ (by simp) rfl
          have hRR := k2 g11 hi
          obtain ⟨q1, q2⟩ := KF.out _ _ hRR
          obtain ⟨g', cap', rfl⟩ := ownsRow_succ hRR.1
          have cY := (cell_of_block q2).1
          have fY := (cell_of_block q2).2
          go_simp
          exact hK _ _ ⟨_, _, _, _, _, _, _, _, _, _, _, _, rfl, i0, i1, i2, i3, i4, i5, i6, i7, i8, i9, i10, fun h => absurd ((hclo 11 _ rfl g11 ⟨10, .data⟩ (by simp) rfl).symm.trans h) (by simp), fun _ h => absurd (g11.symm.trans h) (by simp), nofun, fun _ => q1⟩
        · rintro L A Y hL ⟨x0, x1, x2, x3, x4, x5, x6, x7, x8, x9, x10, x11, rfl, i0, i1, i2, i3, i4, i5, i6, i7, i8, i9, i10, k0, k1, k2, k3⟩
          have hF := Lib.hid (k3 (hL 12 (by decide)))
          clear i0 i1 i2 i3 i4 i5 i6 i7 i8 i9 i10 k0 k1 k2 k3
          gi_wp2
          exact FINo.out _ hF.out
        -- END12
      case done =>
        rintro W ⟨hB, v, hv, hrow⟩ hD
        rw [HN.out.1] at hrow
        have hsW := hB.size
        have hWw : Below w.heap.size w W := bst HA.out.1 hB
        have hlR : Rd W lv (fun j => ((B.lvAll base c n j : Nat) : Int)) n := row_rd (own_below HA.out.2.1 hB)
        have bt : W.cell? ⟨w.heap.size, 0, none⟩ = some (.string s) := (World.cell?_of_block (hB.block _ (World.block_lt_of_cell? _ _ HBA.out))).trans HBA.out
        have bv := (cell_of_block hv).1
        have hlve : ∀ k, k < n → B.lvAll base c n k ≤ 67108864 := fun k hk => by have := B.lvAll_le base c n k hk; omega
        obtain ⟨LV, hLV⟩ : ∃ f, B.lvAll base c n = f := ⟨_, rfl⟩
        rw [hLV] at hlR hlve
        have HVL : Hid (R1 = ⟨(textB (B.visR l LV n n)).toArray⟩) := Lib.hid (by rw [← hLV]; exact HV.out)
        have hW0 : W0.heap.size < W.heap.size := (Array.getElem?_eq_some_iff.1 hD).1
        obtain ⟨PA, pc, rfl, hpc, hPA⟩ := ownN_form hrow
        have hlR2 := hlR
        obtain ⟨LA, lc, rfl, hlc, hlA⟩ := hlR2
        obtain ⟨bB, hbB⟩ : ∃ b, W.heap.size = b := ⟨_, rfl⟩
        have hbl : Bld bB bB [] (W.alloc (.cells #[.pointer none, .slice none 0 0] 79)) := by rw [← hbB]; exact Bld.new W _ (Nat.le_refl _)
        have ORD := Lib.hid (order_any n LV (.slice LA n lc) (W.alloc (.cells #[.pointer none, .slice none 0 0] 79)) (by omega) hlve (hlR.below ((Below.refl _ _).alloc (Nat.le_refl _) _)))
        rw [show (W.alloc (.cells #[.pointer none, .slice none 0 0] 79)).heap.size = bB + 1 by simp [hbB]] at ORD
        have HWD := Lib.hid (And.intro hWw (And.intro hD (And.intro hrow (And.intro hlR hlA))))
        have HC := Lib.hid (And.intro bt (And.intro bv (And.intro hbl (And.intro hlve hbB))))
        have hsb : W0.heap.size < bB := by omega
        have hA1b : A1.heap.size < bB := by omega
        clear hWw hD hrow hlR hlA hv hB bt bv hbl hlve hLV hW0
        go_wp2_with (go_at_call 23; (with_reducible refine ORD.out.mono ?_); rintro e W3 ⟨rfl, hb3, hr3⟩)
        -- LOOPS
        have hz3 := hb3.size
        rw [show (W.alloc (.cells #[.pointer none, .slice none 0 0] 79)).heap.size = bB + 1 by simp [HC.out.2.2.2.2]] at hz3
        have hBW3 : Below bB W W3 := by
          have h1 : Below bB W (W.alloc (.cells #[.pointer none, .slice none 0 0] 79)) := (Below.refl _ _).alloc (by rw [HC.out.2.2.2.2]; exact Nat.le_refl _) _
          exact h1.trans (hb3.mono (by omega))
        have hbl3 : Bld bB bB [] W3 := HC.out.2.2.1.below (by rw [show (W.alloc (.cells #[.pointer none, .slice none 0 0] 79)).heap.size = bB + 1 by simp [HC.out.2.2.2.2]]; exact hb3)
        have H3 := Lib.hid (And.intro hBW3 (And.intro hbl3 hr3))
        -- what stands in each later world
        have KW : Hid (∀ wx, Below bB W3 wx → Lib.OthersKept 5 (some bB) W3 wx → (wx.cell? ⟨A1.heap.size, 0, none⟩ = some (.slice PA n pc)) ∧ Rw wx (bB + 1) (fun j => (B.ord LV n j : Int)) n ∧ (0 < n → ∃ pg lg lo, PA = some ⟨pg, 0, none⟩ ∧ LA = some ⟨lg, lo, none⟩ ∧ ∀ i, i < n → wx.cell? ⟨pg, i, none⟩ = some (.string (partS s i)) ∧ wx.cell? ⟨lg, lo + i, none⟩ = some (.int .i64 (LV i : Int)))) := Lib.hid (fun wx hb ho => by
          have hbb := hBW3.trans hb
          have hbW : ∀ {ad : Addr} {u : Value}, W.cell? ad = some u → wx.cell? ad = some u := fun h => by
            have hl := World.block_lt_of_cell? _ _ h
            rw [HC.out.2.2.2.2] at hl
            exact (World.cell?_of_block (hbb.block _ hl)).trans h
          refine ⟨hbW HC.out.2.1, rw_oth hr3 ho (by omega), fun h0 => ?_⟩
          obtain ⟨pg, rfl⟩ := hPA h0
          obtain ⟨lg, lo, rfl, hl⟩ := HWD.out.2.2.2.2 h0
          refine ⟨pg, lg, lo, rfl, rfl, fun i hi => ⟨hbW ?_, hbW (hl i hi)⟩⟩
          exact cells_at HWD.out.2.2.1 i _ (by unfold ptV; rw [List.getElem?_map, List.getElem?_range hi]; rfl))
        have ORL := Lib.hid (fun k (hk : k < n) => ord_lt LV n k hk)
        clear hBW3 hbl3 hr3 hb3
        go_loopw [52] (fun iv wx => ∃ k : Nat, iv = .int .i64 (k : Int) ∧ k ≤ n ∧ Bld bB bB (textB (B.visR l LV n k)) wx ∧ Lib.OthersKept 5 (some bB) W3 wx ∧ Below bB W3 wx) (fun iv _ => n - (RowKit.intOf iv).toNat)
        case atStart => exact ⟨0, rfl, Nat.zero_le _, H3.out.2.1, Lib.OthersKept.refl _ _ _, Below.refl _ _⟩
        case round =>
          obtain ⟨k, rfl, hk, hbld, hoth, hbw⟩ := hrel
          have hsz := hbw.size
          by_cases hlt : k < n
          · obtain ⟨kb, kr, kp⟩ := KW.out wr hbw hoth
            obtain ⟨pg, lg, lo, rfl, rfl, hpl⟩ := kp (by omega)
            have hin := ORL.out k hlt
            have o0 := (kr.at hlt).1
            obtain ⟨i, hi⟩ : ∃ i, B.ord LV n k = i := ⟨_, rfl⟩
            rw [hi] at hin o0
            obtain ⟨p0, l0⟩ := hpl i hin
            obtain ⟨part, hpart⟩ : ∃ q, partS s i = q := ⟨_, rfl⟩
            have hpr := part_runes s i (by rw [HN.out.1]; exact hin)
            rw [show s.extract (C.atF (U.toks s.data.toList) i) (C.atF (U.toks s.data.toList) (i + 1)) = part from hpart] at hpr
            rw [HL.out] at hpr
            have hps : part.size ≤ 4194304 := by
              have h1 : part.size ≤ s.size := by rw [← hpart]; unfold partS; simp; omega
              omega
            rw [hpart] at p0
            obtain ⟨cap, W4, arr, hcv, hb4, hz4, hg4, hrn⟩ := runes_conv_at part wr hps
            obtain ⟨m, hm⟩ : ∃ m, C.sgF l (i + 1) - C.sgF l i = m := ⟨_, rfl⟩
            rw [hm] at hpr
            have hml : (runesL part.data.toList).length = m := by rw [hpr]; simp
            rw [hml] at hcv
            have hm4 : m ≤ s.size := by have := sgF_le l (i + 1); omega
            have hrn2 : ∀ j, j < m → W4.cell? ⟨wr.heap.size, j, none⟩ = some (.int .i32 (C.rune l (C.sgF l i + j) : Int)) := fun j hj => by
              have := hrn j (C.rune l (C.sgF l i + j) : Int) (by rw [hpr, List.getElem?_map, List.getElem?_range hj]; rfl)
              simp [World.cell?, hg4, this]
            have HG := Lib.hid (And.intro hg4 hrn2)
            have HBL := Lib.hid (And.intro (hbld.below hb4) (And.intro (hoth.trans (oth_below hb4)) (hbw.trans (hb4.mono (by omega)))))
            have HI := Lib.hid (And.intro hi hm)
            have lpar : (LV i : Int) % 2 = 1 ∨ (LV i : Int) % 2 = 0 := by omega
            obtain ⟨lmi, hlm⟩ : ∃ x, LV i = x := ⟨_, rfl⟩
            rw [hlm] at l0 lpar
            have HLM := Lib.hid hlm
            have hb4' : Below wr.heap.size wr W4 := hb4
            have HB4 := Lib.hid hb4'
            obtain ⟨zw, hzw⟩ : ∃ z, wr.heap.size = z := ⟨_, rfl⟩
            rw [hzw] at hcv
            have HZW := Lib.hid hzw
            have hbzw : bB < zw := by omega
            have hz4' : W4.heap.size = zw + 1 := by omega
            have HZ4 := Lib.hid hz4'
            clear hbld hoth hbw kr kp hpl hpr hg4 hrn hrn2 hi hpart hb4 hb4' hm hlm hzw hz4 hz4' hps hml hsz
            go_wp2
            obtain ⟨wo, hwo⟩ : ∃ x, x = wr := ⟨_, rfl⟩
            subst hwo
            go_loopw [62] (fun jv wx => ∃ j : Nat, jv = .int .i64 (j : Int) ∧ j ≤ m ∧ Bld bB bB (textB (B.visR l LV n k) ++ textB (B.visN l LV i j)) wx ∧ Lib.OthersKept 5 (some bB) W4 wx ∧ Below bB W4 wx) (fun jv _ => m - (RowKit.intOf jv).toNat)
            case atStart => exact ⟨0, rfl, Nat.zero_le _, by simpa [B.visN, textB] using HBL.out.1, Lib.OthersKept.refl _ _ _, Below.refl _ _⟩
            case round =>
              obtain ⟨j, rfl, hj, hbld, hoth, hbw⟩ := hrel
              have hsz := hbw.size
              by_cases hjl : j < m
              · have hsz4 := HZ4.out
                obtain ⟨_, _, _, ea, eb, hx⟩ := (KW.out wr (HBL.out.2.2.trans hbw) (HBL.out.2.1.trans hoth)).2.2 (by omega)
                cases ea
                cases eb
                have lx := (hx i hin).2
                rw [HLM.out] at lx
                have hgx : wr.heap[zw]? = W4.heap[zw]? := by
                  have h4 := HG.out.1
                  rw [HZW.out] at h4
                  exact (oth_cell hoth h4 (by decide) (by omega)).trans h4.symm
                have r0' := HG.out.2 j hjl
                rw [HZW.out] at r0'
                have r0 : wr.cell? ⟨zw, j, none⟩ = some (.int .i32 (C.rune l (C.sgF l i + j) : Int)) := (World.cell?_of_block hgx).trans r0'
                have hvr := vis1_range s LV i j
                rw [HL.out] at hvr
                have hvd : B.vis1 l LV i j = if j = 0 ∧ lmi % 2 = 1 then B.mir (C.rune l (C.sgF l i) : Int) else (C.rune l (C.sgF l i + j) : Int) := by rw [← HLM.out]; rfl
                obtain ⟨V, hV⟩ : ∃ x, B.vis1 l LV i j = x := ⟨_, rfl⟩
                rw [hV] at hvr hvd
                have hacl : (textB (B.visR l LV n k) ++ textB (B.visN l LV i j)).length + 4 ≤ 140737488355328 := by
                  have q1 := textB_len (B.visR l LV n k)
                  have q2 := textB_len (B.visN l LV i j)
                  have q3 := B.visR_len l LV n 4194304 (fun q => by have := sgF_le l (q + 1); omega) k
                  rw [B.visN_len] at q2
                  rw [List.length_append]
                  omega
                have hnxt : textB (B.visR l LV n k) ++ textB (B.visN l LV i (j + 1)) = (textB (B.visR l LV n k) ++ textB (B.visN l LV i j)) ++ Lib.encodeRune V := by
                  rw [B.visN_succ, textB_app, textB_one, hV, List.append_assoc]
                obtain ⟨acc, hacc⟩ : ∃ x, textB (B.visR l LV n k) ++ textB (B.visN l LV i j) = x := ⟨_, rfl⟩
                rw [hacc] at hbld hacl hnxt
                have WR : Hid (∀ W5, Below wr.heap.size wr W5 → Calls Try.prog 48 #[.pointer (some ⟨bB, 0, none⟩), .int .i32 V] W5 fun e w' => (∃ v, e = .returned v) ∧ Bld bB bB (acc ++ Lib.encodeRune V) w' ∧ Below bB wr w' ∧ Lib.OthersKept 5 (some bB) wr w') := Lib.hid (fun W5 hW => by
                  refine (writeRune_any bB bB acc V hvr.1 hvr.2 W5 (hbld.below hW) hacl (by have := hW.size; omega)).mono ?_
                  rintro e w' ⟨h1, h2, h3, h4⟩
                  exact ⟨h1, h2, (hW.mono (by omega)).trans h3, (oth_below hW).trans h4⟩)
                have HJ := Lib.hid (And.intro hbld (And.intro hoth (And.intro hbw hnxt)))
                obtain ⟨rn, hrn⟩ : ∃ x, (C.rune l (C.sgF l i + j) : Int) = x := ⟨_, rfl⟩
                rw [hrn] at r0 hvd
                have HV0 := Lib.hid (And.intro hvd hrn)
                clear hbld hoth hbw hnxt hacl hvr hvd hV hacc hrn hgx r0' hx hsz4
                rcases Nat.eq_zero_or_pos j with h0 | h0
                · rcases lpar with hod | hod
                  · have MI : Hid (∀ W, Calls Try.prog 14 #[.int .i32 rn] W fun e w' => e = .returned (.int .i32 V) ∧ Below W.heap.size W w') := Lib.hid (fun W => by
                      have h1 := HV0.out.1
                      rw [if_pos ⟨h0, by omega⟩] at h1
                      have h2 := HV0.out.2
                      rw [h0, Nat.add_zero] at h2
                      rw [h1, h2]
                      exact mirror_any rn W)
                    subst h0
                    go_wp2_with (first
                      | (go_at_call 14; (with_reducible refine (MI.out _).mono ?_); rintro e w6 ⟨rfl, hb6⟩)
                      | (go_at_call 48; (with_reducible refine (WR.out _ hb6).mono ?_); rintro e w7 ⟨⟨v7, rfl⟩, hq7, hb7, ho7⟩))
                    go_roundw
                    case rel => exact ⟨0 + 1, by go_num, by omega, by rw [HJ.out.2.2.2]; exact hq7, HJ.out.2.1.trans ho7, HJ.out.2.2.1.trans hb7⟩
                    case measure => simp [RowKit.intOf]; omega
                  · have hrV : rn = V := by
                      have h1 := HV0.out.1
                      rw [if_neg (by omega)] at h1
                      exact h1.symm
                    subst hrV
                    subst h0
                    go_wp2_with (first
                      | (go_at_call 48; (with_reducible refine (WR.out _ (Below.refl _ _)).mono ?_); rintro e w7 ⟨⟨v7, rfl⟩, hq7, hb7, ho7⟩))
                    go_roundw
                    case rel => exact ⟨0 + 1, by go_num, by omega, by rw [HJ.out.2.2.2]; exact hq7, HJ.out.2.1.trans ho7, HJ.out.2.2.1.trans hb7⟩
                    case measure => simp [RowKit.intOf]; omega
                · have hrV : rn = V := by
                    have h1 := HV0.out.1
                    rw [if_neg (by omega)] at h1
                    exact h1.symm
                  subst hrV
                  have b0 : ((j : Int) == 0) = false := by simp; omega
                  go_wp2_with (first
                    | (go_at_call 48; (with_reducible refine (WR.out _ (Below.refl _ _)).mono ?_); rintro e w7 ⟨⟨v7, rfl⟩, hq7, hb7, ho7⟩))
                  go_roundw
                  case rel => exact ⟨j + 1, by go_num, by omega, by rw [HJ.out.2.2.2]; exact hq7, HJ.out.2.1.trans ho7, HJ.out.2.2.1.trans hb7⟩
                  case measure => simp [RowKit.intOf]; omega
              · obtain rfl : m = j := by omega
                have HJ := Lib.hid (And.intro hbld (And.intro hoth hbw))
                clear hbld hoth hbw
                go_wp2
                go_roundw
                case rel =>
                  refine ⟨k + 1, by go_num, hlt, ?_, HBL.out.2.1.trans HJ.out.2.1, HBL.out.2.2.trans HJ.out.2.2⟩
                  have := HJ.out.1
                  rw [B.visR_succ, textB_app, HI.out.1]
                  unfold B.visI
                  rw [HI.out.2]
                  exact this
                case measure => simp [RowKit.intOf]; omega
          · obtain rfl : n = k := by omega
            have ST := Lib.hid (bldStr_any bB bB _ wr hbld (by have := H3.out.1.size; have := HC.out.2.2.2.2; omega))
            rw [← HVL.out] at ST
            have HJ := Lib.hid (And.intro hoth hbw)
            clear hbld hoth hbw
            go_wp2_with (go_at_call 49; (with_reducible refine ST.out.mono ?_); rintro e w8 ⟨rfl, hb8⟩)
            have hD8 : w8.heap[A1.heap.size + 2]? = some (.deferred (some [])) := by
              have h1 := HWD.out.2.1
              rw [hz] at h1
              have h2 := (H3.out.1.trans HJ.out.2).trans hb8
              exact (h2.block _ (by omega)).trans h1
            refine ⟨by simp, .inl ⟨_, _, rfl, run_takeDeferred hD8, ?_⟩⟩
            refine ⟨_, results_tmp2 rfl _ _ _, rfl, ?_⟩
            have h2 := (H3.out.1.trans HJ.out.2).trans hb8
            have h3 : Below w.heap.size w w8 := HWD.out.1.trans (h2.mono (by have := HWD.out.1.size; have := HC.out.2.2.2.2; omega))
            exact (Fr.of_below (S := fun k => k < w.heap.size) h3 (fun k _ h => h)).putObj _ _ (fun _ h => by have := HA.out.1.size; omega) |>.toBelow (fun k h => h) (Nat.le_refl _)
      case stop =>
        intro c pre W _ _ h
        exact h.elim
end Go.Proofs.Ytclblidfamabdaa
