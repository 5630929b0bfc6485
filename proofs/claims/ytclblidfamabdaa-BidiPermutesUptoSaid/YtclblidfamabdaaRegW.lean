/- A region that draws its order, in a round too: a law of what is done so far, whatever the order; calls of built-in functions among the steps. -/
import Derived.Test.YtclblidfamabdaaRegInv
import Derived.LoopIn
import Derived.Test.YtclblidfamabdaaBdJ
import Derived.OwnWalkIn
set_option linter.unusedVariables false
set_option linter.unusedSimpArgs false
namespace Go.Proofs.Ytclblidfamabdaa
open Go

section
variable {F : Fence} {n : Nat} {P : Program} {ops : Array Oper} {Q : Exit → Act → World → Prop}
/-- The law is kept by each operation, whose own have gone ahead. -/
def StepsW (F : Fence) (n : Nat) (P : Program) (ops : Array Oper) (Q : Exit → Act → World → Prop) (I : (Nat → Bool) → Act → World → Prop) : List Oper → Nat → Prop
  | [], _ => True
  | o :: l, i => (∀ L a w, Clo ops L → I L a w → L i = false → (∀ e ∈ o.after, Region.binds .any e = true → L e.on = true) → ∀ K : Act → World → Prop, (∀ a' w', I (fun j => decide (j = i) || L j) a' w' → K a' w') → Oper.wpIn F n P o a w K Q) ∧ StepsW F n P ops Q I l (i + 1)
theorem stepsW_at {I : (Nat → Bool) → Act → World → Prop} : ∀ (l : List Oper) (k : Nat), (∀ j, l[j]? = ops[k + j]?) → (∀ o ∈ l, o.guard = none) → StepsW F n P ops Q I l k →
    ∀ i o, k ≤ i → ops[i]? = some o → ∀ L a w, Clo ops L → I L a w → L i = false → (∀ e ∈ o.after, Region.binds .any e = true → L e.on = true) → wpOpIn F n P ops Q i (fun a' w' => I (fun j => decide (j = i) || L j) a' w') a w := by
  intro l
  induction l with
  | nil =>
    intro k hl _ _ i o hk ho
    have := hl (i - k)
    rw [show k + (i - k) = i by omega, ho] at this
    cases this
  | cons x l ih =>
    intro k hl hc h i o hk ho
    by_cases e : i = k
    · subst e
      have h0 := hl 0
      rw [List.getElem?_cons_zero, Nat.add_zero, ho] at h0
      obtain rfl := Option.some.inj h0
      intro L a w h1 h2 h3 h4
      refine wpOpIn_step ho (fun K hK => ?_)
      have hw : Region.wanted x (yielded ops a.tmps) = true := by unfold Region.wanted; rw [hc x List.mem_cons_self]
      rw [if_pos hw]
      exact h.1 L a w h1 h2 h3 h4 K hK
    · refine ih (k + 1) (fun j => ?_) (fun o ho => hc o (List.mem_cons_of_mem _ ho)) h.2 i o (by omega) ho
      have := hl (j + 1)
      rw [List.getElem?_cons_succ] at this
      rw [this]
      congr 1
      omega
theorem wpIn_region_w (I : (Nat → Bool) → Act → World → Prop) {id : Nat} {a : Act} {w : World} {l : List Oper} (hm : P.follows .mixedOrders = true) (hB : (backB l.toArray && l.all (fun o => o.guard.isNone)) = true)
    (h0 : I (fun _ => false) a w.drew) (hs : StepsW F n P l.toArray Q I l 0)
    (hend : ∀ L a w, (∀ i, i < l.length → L i = true) → I L a w → Q .normal a w) : (Code.region id l.toArray true).wpIn F n P Q a w := by
  rw [Bool.and_eq_true] at hB
  have hc : ∀ o ∈ l, o.guard = none := fun o ho => by
    have := List.all_eq_true.1 hB.2 o ho
    simpa using this
  refine wpIn_region_inv I hm hB.1 h0 (fun L i o a w h1 h2 h3 h4 h5 => ?_) (fun L a w hL => hend L a w (fun i hi => hL i (by simpa using hi)))
  exact stepsW_at (ops := l.toArray) l 0 (fun j => by simp) hc hs i o (Nat.zero_le _) h3 L a w h1 h2 h4 h5
/-- An append whose run is known. -/
theorem append_in {o : Oper} {a : Act} {w : World} {K : Act → World → Prop} {R : Value → World → Prop} (hgd : o.guard = none) (s x : Operand) (t : TypeId)
    (ho : o.op = .call { callee := .builtin .append, args := #[s, x], argTypes := #[t, t] }) (v xv : Value) (hs : a.eval s = v) (hx : a.eval x = xv)
    (hr : ∃ v' w', (Builtin.append_ #[t, t] o.type #[v, xv]).run P w = .ok v' w' ∧ R v' w') (h : ∀ v' w', R v' w' → K (a.put o.dst v') w') : Oper.wpIn F n P o a w K Q := by
  have hw : Region.wanted o (yielded (#[] : Array Oper) a.tmps) = true := by simp [Region.wanted, hgd]
  have := step_append_in (F := F) (n := n) (P := P) (w := w) (ops := #[]) (Q := Q) (E := True) hgd s x t ho v xv hs hx hr h
  rwa [if_pos hw] at this
end
end Go.Proofs.Ytclblidfamabdaa
