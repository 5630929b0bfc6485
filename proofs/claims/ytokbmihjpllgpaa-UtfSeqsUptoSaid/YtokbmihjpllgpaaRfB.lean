/- A range over a function that may be left early, to the place where it ends by itself. -/
import Derived.Test.YtokbmihjpllgpaaBase
import Derived.Test.YtokbmihjpllgpaaHeld
set_option linter.unusedVariables false
namespace Go.Proofs.Ytokbmihjpllgpaa
open Go.RowKit

/-- 'for .. := range g' that may be left early by one way out, to the place where it ends by itself. -/
theorem wp_rf_b {P : Program} {α : Type} {g : Operand} {ps : Array Tmp} {assign body : Code} {Q : Exit → Act → World → Prop} {a : Act} {w : World} (w0 : World)
    {gf : Nat} {lb : Array Value} (hg : a.eval g = .func (.func gf) #[] lb) (eg : ∀ args w, (callFunc gf args).run P w = .ok (.enter gf args) w)
    {encs : α → Array Value} {xs : List α} {m : Nat} {C : Nat → Prop} (hseq : SeqC P gf lb encs xs m C w0) (hC0 : Fr C w0 w) (hCw : ∀ k, C k → k < w.heap.size) (hps : ∀ x, (encs x).size = ps.size)
    (I : List α → World → Prop) (id : Nat) (hQ : ∀ a W, Q .normal a W → Q (.exit id) a W)
    (hI : ∀ pre A B, Fr (fun k => k < w.heap.size ∨ w.heap.size + 2 + m ≤ k) A B → I pre A → I pre B) (h0 : I [] w)
    (hround : ∀ pre x post W, xs = pre ++ x :: post → w.heap.size + 2 + m ≤ W.heap.size → I pre W →
      assign.wpIn (Fence.wide.inRound (w.heap.size + 1)) 0 P (Exit.then (fun a2 W2 => Fr (fun k => C k ∨ (w.heap.size ≤ k ∧ k < w.heap.size + 2 + m)) W W2 ∧
        ∀ W3, Fr (fun k => k ≠ w.heap.size + 1) W2 W3 → W3.heap.size = W2.heap.size → (∃ r, W3.heap[w.heap.size + 1]? = some (.loop r)) →
        body.wpIn (Fence.wide.inRound (w.heap.size + 1)) 0 P (roundEnd (fun k => C k ∨ (w.heap.size ≤ k ∧ k < w.heap.size + 2 + m)) I (fun c pre W => c = .exit id ∧ I pre W) (pre ++ [x]) W3) a2 W3) (fun _ _ _ => False))
        { tmps := (ps.zip (encs x)).foldl (fun t (p, v) => t.setIfInBounds p v) a.tmps, defers := [] } W)
    (hfin : ∀ pre W, pre <+: xs → I pre W → W.heap[w.heap.size]? = some (.deferred (some [])) → Q .normal { a with defers := { target := .collected w.heap.size, args := #[] } :: a.defers } W) :
    (Code.rangeFunc g ps assign body).wp P Q a w :=
  wp_rf w0 hg eg hseq hC0 hCw hps I (fun c pre W => c = .exit id ∧ I pre W) hI (fun c pre A B hf h => ⟨h.1, hI pre A B hf h.2⟩) h0 hround (fun W h hD => hfin xs W (List.prefix_refl _) h hD)
    (fun c pre W hp _ h hD => by obtain ⟨rfl, h⟩ := h; exact wp_exit (hQ _ _ (hfin pre W hp h hD)))
/-- The same within a round. -/
theorem wp_rf_in_b {P : Program} {α : Type} {g : Operand} {ps : Array Tmp} {assign body : Code} {Q : Exit → Act → World → Prop} {a : Act} {w : World} (w0 : World) {l₀ : Nat} (hl0 : ∃ r, w.heap[l₀]? = some (.loop r))
    {gf : Nat} {lb : Array Value} (hg : a.eval g = .func (.func gf) #[] lb) (eg : ∀ args w, (callFunc gf args).run P w = .ok (.enter gf args) w)
    {encs : α → Array Value} {xs : List α} {m : Nat} {C : Nat → Prop} (hseq : SeqC P gf lb encs xs m C w0) (hC0 : Fr C w0 w) (hCw : ∀ k, C k → k < w.heap.size) (hps : ∀ x, (encs x).size = ps.size)
    (I : List α → World → Prop) (id : Nat) (hQ : ∀ a W, Q .normal a W → Q (.exit id) a W)
    (hI : ∀ pre A B, Fr (fun k => k < w.heap.size ∨ w.heap.size + 1 + m ≤ k) A B → I pre A → I pre B) (h0 : I [] w)
    (hround : ∀ pre x post W, xs = pre ++ x :: post → w.heap.size + 1 + m ≤ W.heap.size → I pre W →
      assign.wpIn (Fence.wide.inRound w.heap.size) 0 P (Exit.then (fun a2 W2 => Fr (fun k => C k ∨ (w.heap.size ≤ k ∧ k < w.heap.size + 1 + m)) W W2 ∧
        ∀ W3, Fr (fun k => k ≠ w.heap.size) W2 W3 → W3.heap.size = W2.heap.size → (∃ r, W3.heap[w.heap.size]? = some (.loop r)) →
        body.wpIn (Fence.wide.inRound w.heap.size) 0 P (roundEnd (fun k => C k ∨ (w.heap.size ≤ k ∧ k < w.heap.size + 1 + m)) I (fun c pre W => c = .exit id ∧ I pre W) (pre ++ [x]) W3) a2 W3) (fun _ _ _ => False))
        { tmps := (ps.zip (encs x)).foldl (fun t (p, v) => t.setIfInBounds p v) a.tmps, defers := [] } W)
    (hfin : ∀ pre W, pre <+: xs → I pre W → Q .normal a W) :
    (Code.rangeFunc g ps assign body).wpIn (Fence.wide.inRound l₀) 0 P Q a w :=
  wp_rf_in w0 hl0 hg eg hseq hC0 hCw hps I (fun c pre W => c = .exit id ∧ I pre W) hI (fun c pre A B hf h => ⟨h.1, hI pre A B hf h.2⟩) h0 hround (fun W h => hfin xs W (List.prefix_refl _) h)
    (fun c pre W hp _ h => by obtain ⟨rfl, h⟩ := h; exact wpIn_exit (hQ _ _ (hfin pre W hp h)))
theorem at_worldIn {F : Fence} {n : Nat} {P : Program} {c : Code} {Q : Exit → Act → World → Prop} {a : Act} {w : World} (h : ∀ W, w = W → Code.wpIn F n P c Q a W) : Code.wpIn F n P c Q a w := h w rfl
/-- Left early: with a law of its own. -/
theorem wp_rf_c {P : Program} {α : Type} {g : Operand} {ps : Array Tmp} {assign body : Code} {Q : Exit → Act → World → Prop} {a : Act} {w : World} (w0 : World)
    {gf : Nat} {lb : Array Value} (hg : a.eval g = .func (.func gf) #[] lb) (eg : ∀ args w, (callFunc gf args).run P w = .ok (.enter gf args) w)
    {encs : α → Array Value} {xs : List α} {m : Nat} {C : Nat → Prop} (hseq : SeqC P gf lb encs xs m C w0) (hC0 : Fr C w0 w) (hCw : ∀ k, C k → k < w.heap.size) (hps : ∀ x, (encs x).size = ps.size)
    (I J : List α → World → Prop) (id : Nat) (hQ : ∀ a W, Q .normal a W → Q (.exit id) a W)
    (hI : ∀ pre A B, Fr (fun k => k < w.heap.size ∨ w.heap.size + 2 + m ≤ k) A B → I pre A → I pre B)
    (hJ : ∀ pre A B, Fr (fun k => k < w.heap.size ∨ w.heap.size + 2 + m ≤ k) A B → J pre A → J pre B) (h0 : I [] w)
    (hround : ∀ pre x post W, xs = pre ++ x :: post → w.heap.size + 2 + m ≤ W.heap.size → I pre W →
      assign.wpIn (Fence.wide.inRound (w.heap.size + 1)) 0 P (Exit.then (fun a2 W2 => Fr (fun k => C k ∨ (w.heap.size ≤ k ∧ k < w.heap.size + 2 + m)) W W2 ∧
        ∀ W3, Fr (fun k => k ≠ w.heap.size + 1) W2 W3 → W3.heap.size = W2.heap.size → (∃ r, W3.heap[w.heap.size + 1]? = some (.loop r)) →
        body.wpIn (Fence.wide.inRound (w.heap.size + 1)) 0 P (roundEnd (fun k => C k ∨ (w.heap.size ≤ k ∧ k < w.heap.size + 2 + m)) I (fun c pre W => c = .exit id ∧ J pre W) (pre ++ [x]) W3) a2 W3) (fun _ _ _ => False))
        { tmps := (ps.zip (encs x)).foldl (fun t (p, v) => t.setIfInBounds p v) a.tmps, defers := [] } W)
    (hfin : ∀ pre W, pre <+: xs → (pre = xs ∧ I pre W ∨ J pre W) → W.heap[w.heap.size]? = some (.deferred (some [])) → Q .normal { a with defers := { target := .collected w.heap.size, args := #[] } :: a.defers } W) :
    (Code.rangeFunc g ps assign body).wp P Q a w :=
  wp_rf w0 hg eg hseq hC0 hCw hps I (fun c pre W => c = .exit id ∧ J pre W) hI (fun c pre A B hf h => ⟨h.1, hJ pre A B hf h.2⟩) h0 hround (fun W h hD => hfin xs W (List.prefix_refl _) (.inl ⟨rfl, h⟩) hD)
    (fun c pre W hp _ h hD => by obtain ⟨rfl, h⟩ := h; exact wp_exit (hQ _ _ (hfin pre W hp (.inr h) hD)))
end Go.Proofs.Ytokbmihjpllgpaa
