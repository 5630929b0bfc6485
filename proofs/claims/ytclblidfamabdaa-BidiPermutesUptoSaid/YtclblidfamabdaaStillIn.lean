/- A region that draws its order, in a round of a range over a function: what reads first, in any order, then what writes, in one. -/
import Derived.Test.YtclblidfamabdaaBase
import Derived.StillTailTactics
import Derived.OrdersIn
set_option linter.unusedVariables false
set_option linter.unusedSimpArgs false
namespace Go.Proofs.Ytclblidfamabdaa
open Go

/-- Operations that call nothing. -/
def calm (o : Oper) : Bool := match o.op with
  | .load .. | .store .. | .slice .. | .fieldAddr .. | .indexAddr .. | .move .. | .assign .. | .binOp .. => true
  | _ => false
theorem calm_about {o : Oper} (h : calm o = true) (P : Program) (w : World) (ρ : Operand → Value) : o.about P w ρ = none := by
  unfold Oper.about
  unfold calm at h
  split
  · rename_i c hc; rw [hc] at h; cases h
  · rfl
theorem calm_sem {o : Oper} (h : calm o = true) (ro : Option Nat) (ρ : Operand → Value) : Oper.semAt ro ρ o = execOp ρ o := Oper.semAt_eq ro ρ o (fun c hc => by
  unfold calm at h; rw [hc] at h; cases h)
theorem noEnter_v {P : Program} {s : Sem Value} {w w' : World} {f : FuncId} {args : Array Value} (h : (do pure (Next.value (← s)) : Sem Next).run P w = .ok (.enter f args) w') : False := by
  rw [Sem.run_bind] at h
  cases hs : Sem.run P s w with
  | ok v w2 => rw [hs] at h; cases h
  | halt x w2 => rw [hs] at h; cases h
theorem noEnter_u {P : Program} {s : Sem Unit} {w w' : World} {f : FuncId} {args : Array Value} (h : (do s; pure Next.skip : Sem Next).run P w = .ok (.enter f args) w') : False := by
  rw [Sem.run_bind] at h
  cases hs : Sem.run P s w with
  | ok v w2 => rw [hs] at h; cases h
  | halt x w2 => rw [hs] at h; cases h
theorem calm_enter {o : Oper} (hc : calm o = true) {P : Program} {ρ : Operand → Value} {w w' : World} {f : FuncId} {args : Array Value} (h : (execOp ρ o).run P w = .ok (.enter f args) w') : False := by
  unfold calm at hc
  unfold execOp at h
  cases ho : o.op <;> rw [ho] at hc h <;> first | (cases hc; done) | exact noEnter_v h | exact noEnter_u h | cases h

section
variable {F : Fence} {n : Nat} {P : Program} {ops : Array Oper} {md : Region.Mode} {w : World}
theorem wpOpIn_of_stOp (hc : ∀ (i : Nat) (o : Oper), ops[i]? = some o → calm o = true) {i : Nat} {a : Act} {K : Act → Prop} {K' : Act → World → Prop} {Q' : Exit → Act → World → Prop} (h : ∀ a, K a → K' a w) (hh : stOp P ops w i K a) : wpOpIn F n P ops Q' i K' a w := by
  unfold stOp at hh
  unfold wpOpIn
  split
  · rename_i ho; simp only [ho] at hh; exact h _ hh
  · rename_i o ho
    have ca := hc i o ho
    simp only [ho] at hh
    split
    · rename_i hw
      simp only [hw, if_true] at hh
      refine ⟨fun f hf => (by rw [calm_about ca] at hf; cases hf), ?_⟩
      rw [calm_sem ca]
      unfold Oper.still at hh
      cases hr : (execOp a.eval o).run P w with
      | ok nx w' =>
        rw [hr] at hh
        cases nx <;> simp only [Oper.stillUpon] at hh
        case value v => obtain ⟨rfl, h2⟩ := hh; exact h _ h2
        case skip => obtain ⟨rfl, h2⟩ := hh; exact h _ h2
        case enter f args => exact (calm_enter ca hr).elim
      | halt x w' => rw [hr] at hh; simp only [Oper.stillUpon] at hh
    · rename_i hw
      simp only [hw] at hh
      exact ⟨fun f hf => (by rw [calm_about ca] at hf; cases hf), h _ hh⟩

theorem wpAnyIn_of_head (hc : ∀ (i : Nat) (o : Oper), ops[i]? = some o → calm o = true) {m g : Nat} {L : Array Bool → Act → Prop} {Q' : Exit → Act → World → Prop} (hL : ∀ listed a, L listed a → wpAnyIn F n P md ops Q' g listed a w) :
    ∀ (f : Nat) (listed : Array Bool) (a : Act), wpAnyL P md ops w m L f listed a → wpAnyIn F n P md ops Q' (f + g) listed a w
  | 0, listed, a, h => by rw [Nat.zero_add]; exact hL _ _ h
  | f + 1, listed, a, h => by
    rw [show f + 1 + g = (f + g) + 1 by omega]
    exact ⟨fun h0 => absurd h0 h.1, fun i hi => wpOpIn_of_stOp hc (fun a' h' => wpAnyIn_of_head hc hL f _ a' h') (h.2 i hi).2⟩

theorem wpAnyIn_of_seq {Q' : Exit → Act → World → Prop} : ∀ (l : List Oper) (k : Nat) (listed : Array Bool) (a : Act) (w : World), (∀ j, l[j]? = ops[k + j]?) →
    Region.seqB md ops l.length k listed = true → wpListIn F n P ops Q' l a w → wpAnyIn F n P md ops Q' l.length listed a w
  | [], _, _, _, _, _, hB, h => ⟨by simpa [Region.seqB] using hB, h⟩
  | o :: l, k, listed, a, w, hl, hB, h => by
    have h0 : ops[k]? = some o := by simpa using (hl 0).symm
    simp only [List.length_cons, Region.seqB, Bool.and_eq_true, decide_eq_true_eq] at hB
    refine ⟨fun h1 => (by rw [hB.1] at h1; cases h1), fun i hi => ?_⟩
    rw [hB.1] at hi
    have hik : i = k := by simpa using hi
    subst hik
    have hw : wpOpIn F n P ops Q' i (wpListIn F n P ops Q' l) a w := by unfold wpOpIn; simp only [h0]; exact h
    exact wpOpIn_mono (fun a' w' h' => wpAnyIn_of_seq l (i + 1) _ a' w' (fun j => by have := hl (j + 1); simpa [Nat.add_assoc, Nat.add_comm 1 j] using this) hB.2 h') hw

theorem wpIn_region_still_tail {id : Nat} {Q : Exit → Act → World → Prop} {a : Act} {w : World} {l : List Oper} (m : Nat) (hm : P.follows .mixedOrders = true) (hB : (Region.lexTailB .any l.toArray m && l.all calm) = true)
    (h : wpStill P l.toArray w.drew (fun a' => wpListIn F n P l.toArray Q (l.drop m) a' w.drew) (l.take m) a) : (Code.region id l.toArray true).wpIn F n P Q a w := by
  rw [Bool.and_eq_true] at hB
  obtain ⟨hB, hcalm⟩ := hB
  simp only [Region.lexTailB, Bool.and_eq_true, decide_eq_true_eq] at hB
  obtain ⟨⟨⟨⟨hsel, hn⟩, hs⟩, hc⟩, hlex⟩ := hB
  have hca : ∀ (i : Nat) (o : Oper), l.toArray[i]? = some o → calm o = true := fun i o ho => by
    rw [List.all_eq_true] at hcalm
    rw [List.getElem?_toArray] at ho
    exact hcalm o (List.mem_of_getElem? ho)
  have hn' : m < l.length := by simpa using hn
  have htl : (l.take m).length = m := by simp; omega
  have hdl : (l.drop m).length = l.toArray.size - m := by simp
  have inv0 : HeadInv .any l.toArray m (Array.replicate l.toArray.size false) :=
    ⟨by simp, fun j oj _ hl => (by rw [getD_replicate_false] at hl; cases hl), fun t _ ht => getD_in (by simpa using ht) (getD_replicate_false _ _)⟩
  have H := wpAnyL_lex (md := .any) (g := l.toArray.size - m) hsel hs hc hn (l.take m) 0 _ a (fun j hj => by
    have hj' : j < m := by rw [htl] at hj; exact hj
    simp [hj']) (by simpa using htl) inv0 (by rw [htl]; exact hlex) h
  refine wpIn_region_any hm ?_
  have := wpAnyIn_of_head (F := F) (n := n) hca (Q' := Q) (g := l.toArray.size - m) (fun listed a' hL => by
    have := wpAnyIn_of_seq (F := F) (n := n) (md := .any) (Q' := Q) (l.drop m) m listed a' w.drew (fun j => by simp [List.getElem?_drop]) (by rw [hdl]; exact hL.1) hL.2
    rwa [hdl] at this) _ _ _ H
  rw [htl, show m + (l.toArray.size - m) = l.toArray.size by omega] at this
  exact this
end
end Go.Proofs.Ytclblidfamabdaa
