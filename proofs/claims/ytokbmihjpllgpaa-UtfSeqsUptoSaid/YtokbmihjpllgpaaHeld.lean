/- A region that draws its order and reads in a class of worlds, in a round of a loop over an iterator. -/
import Derived.Test.YtokbmihjpllgpaaQuiet
import Derived.Below
set_option linter.unusedVariables false
namespace Go.Proofs.Ytokbmihjpllgpaa
open Go.RowKit

theorem wpIn_region_held_lit {P : Program} {l : Nat} {id : Nat} {Q : Exit → Act → World → Prop} {a : Act} {w : World} {ls : List Oper} {X : Type} (f : X → World) (h0 : ∃ x, w.drew = f x)
    (hm : P.follows .mixedOrders = true) (hB : Region.lexB .any ls.toArray = true) (hd : noDefer ls = true)
    (h : wpQuiet P ls.toArray (fun w' => ∃ x, w' = f x) (fun a' => ∀ w', (∃ x, w' = f x) → Q .normal a' w') ls a) : (Code.region id ls.toArray true).wpIn (Fence.wide.inRound l) 0 P Q a w := by
  simp only [Region.lexB, Bool.and_eq_true] at hB
  refine wpIn_region_any hm (wpAnyIn_of_quiet (C := fun w' => ∃ x, w' = f x) (Q := fun a' => ∀ w', (∃ x, w' = f x) → Q .normal a' w') (noDefer_spec hd) (fun _ w' hw' h => h w' hw') _ _ _ _ h0 ?_)
  have := wpAnyQ_lex (C := fun w' => ∃ x, w' = f x) (md := .any) hB.1 ls.toArray.toList 0 (Array.replicate ls.toArray.size false) a (by simp) (by simpa using hB.2) (by simpa using h)
  simpa using this

/-- All worlds that keep what lay below, by a name. -/
theorem aboves (w : World) : ∃ (X : Type) (f : X → World), (∀ x, Below w.heap.size w (f x)) ∧ (∀ W, Below w.heap.size w W → ∃ x, W = f x) :=
  ⟨{W // Below w.heap.size w W}, fun x => x.1, fun x => x.2, fun W h => ⟨⟨W, h⟩, rfl⟩⟩
theorem at_world {P : Program} {c : Code} {Q : Exit → Act → World → Prop} {a : Act} {w : World} (h : ∀ W, w = W → Code.wp P c Q a W) : Code.wp P c Q a w := h w rfl
end Go.Proofs.Ytokbmihjpllgpaa
