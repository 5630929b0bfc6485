/- A region that draws its order and only reads, within a round of a loop over an iterator; and one whose last operation stores. -/
import Derived.BigQuiet
import Derived.Deep.QuietTactic
import Derived.OrdersIn
import Derived.RangeFuncCalls
import Derived.TacticsIn
set_option linter.unusedVariables false
namespace Go.Proofs.YtokbmihjpllgpaaDoor
open Go.RowKit

section
variable {P : Program} {ops : Array Oper} {md : Region.Mode} {C : World → Prop} {l : Nat}

theorem wpOpIn_of_qOp {i : Nat} {a : Act} {K : Act → Prop} {K' : Act → World → Prop} {Q' : Exit → Act → World → Prop} {w : World} (hnd : ∀ (j : Nat) (o : Oper), ops[j]? = some o → ∀ c, o.op ≠ .defer c) (hC : C w)
    (h : ∀ a w', C w' → K a → K' a w') (hh : qOp P ops C i K a) : wpOpIn (Fence.wide.inRound l) 0 P ops Q' i K' a w := by
  unfold qOp at hh
  unfold wpOpIn
  split
  · rename_i ho; simp only [ho] at hh; exact h _ _ hC hh
  · rename_i o ho
    simp only [ho] at hh
    split
    · rename_i hw
      simp only [hw, if_true] at hh
      obtain ⟨v, h1, h2⟩ := hh
      have h3 := h1 w hC
      refine ⟨fun _ _ => trivial, ?_⟩
      rw [show (Fence.wide.inRound l).round = some l from rfl, Oper.semAt_some l _ o (hnd i o ho)]
      unfold Oper.quietAt at h3
      generalize (execOp a.eval o).run P w = r at *
      cases r with
      | ok n w' =>
        cases n <;> simp only [Oper.quietUpon] at h3 <;> simp only [Oper.uponIn]
        case value u =>
          obtain ⟨e1, e2⟩ := h3
          rw [e1, e2]
          exact h _ _ hC h2
        case skip =>
          obtain ⟨e1, e2⟩ := h3
          rw [e1, ← e2]
          exact h _ _ hC h2
        case enter f args =>
          obtain ⟨e1, hc⟩ := h3
          rw [e1]
          refine ⟨fun hd => by simp [Fence.wide, Fence.inRound] at hd, CallsIn.inRound l ((callsIn_wide (n := 0 - 1)).2 (hc.mono fun e w'' ⟨he, hw''⟩ => ?_))⟩
          subst he
          exact h _ _ hw'' h2
      | halt x w' => simp only [Oper.quietUpon] at h3
    · rename_i hw; simp only [hw] at hh; exact ⟨fun _ _ => trivial, h _ _ hC hh⟩

theorem wpAnyIn_of_quiet {Q : Act → Prop} {Q' : Exit → Act → World → Prop} (hnd : ∀ (j : Nat) (o : Oper), ops[j]? = some o → ∀ c, o.op ≠ .defer c) (hQ : ∀ a w, C w → Q a → Q' .normal a w) :
    ∀ (fuel : Nat) (listed : Array Bool) (a : Act) (w : World), C w → wpAnyQ P md ops C Q fuel listed a → wpAnyIn (Fence.wide.inRound l) 0 P md ops Q' fuel listed a w
  | 0, _, _, _, hw, h => ⟨h.1, hQ _ _ hw h.2⟩
  | fuel + 1, _, _, _, hw, h => ⟨fun h0 => hQ _ _ hw (h.1 h0), fun i hi => wpOpIn_of_qOp hnd hw (fun a' w' hw' => wpAnyIn_of_quiet hnd hQ fuel _ a' w' hw') (h.2 i hi)⟩

/-- Is no operation of a region a defer statement? -/
def noDefer (ops : List Oper) : Bool := ops.all fun o => match o.op with | .defer _ => false | _ => true
theorem noDefer_spec {ops : List Oper} (h : noDefer ops = true) : ∀ (j : Nat) (o : Oper), ops.toArray[j]? = some o → ∀ c, o.op ≠ .defer c := by
  intro j o ho c hc
  have hm : o ∈ ops := by
    have : ops[j]? = some o := by simpa using ho
    exact List.mem_of_getElem? this
  have := List.all_eq_true.1 h o hm
  rw [hc] at this
  cases this

/-- The lexical walk serves every order, in a round too. -/
theorem wpIn_region_quiet_lit {id : Nat} {Q : Exit → Act → World → Prop} {a : Act} {w : World} {ls : List Oper} (hm : P.follows .mixedOrders = true) (hB : Region.lexB .any ls.toArray = true) (hd : noDefer ls = true)
    (h : wpQuiet P ls.toArray (fun w' => ∃ n, w' = w.drewN n) (fun a' => ∀ w', (∃ n, w' = w.drewN n) → Q .normal a' w') ls a) : (Code.region id ls.toArray true).wpIn (Fence.wide.inRound l) 0 P Q a w := by
  simp only [Region.lexB, Bool.and_eq_true] at hB
  refine wpIn_region_any hm (wpAnyIn_of_quiet (C := fun w' => ∃ n, w' = w.drewN n) (Q := fun a' => ∀ w', (∃ n, w' = w.drewN n) → Q .normal a' w') (noDefer_spec hd) (fun _ w' hw' h => h w' hw') _ _ _ _ ⟨1, rfl⟩ ?_)
  have := wpAnyQ_lex (C := fun w' => ∃ n, w' = w.drewN n) (md := .any) hB.1 ls.toArray.toList 0 (Array.replicate ls.toArray.size false) a (by simp) (by simpa using hB.2) (by simpa using h)
  simpa using this
end
end Go.Proofs.YtokbmihjpllgpaaDoor
