/- The law's 'known': the facts of one small text. -/
import Derived.Test.YtclblidfamabdaaG6
set_option linter.unusedVariables false
set_option linter.unusedSimpArgs false
namespace Go.Proofs.Ytclblidfamabdaa
open Go.RowKit Go.Shelf Go.Lib Go.BigFrame
attribute [local go_sem] Oper.semAt_some

def ks0 : ByteArray := ⟨#[101, 204, 129, 228, 184, 173, 255]⟩
def kc0 : List C.Cl := [⟨0, 3, 0, 2, 1⟩, ⟨3, 3, 2, 3, 2⟩, ⟨6, 1, 3, 4, 1⟩]
theorem ks_clus : C.clus (U.toks ks0.data.toList) = kc0 := by decide
theorem ks_size : ks0.size ≤ 4194304 := by decide

theorem kc_wide (w : World) : Calls Try.prog 88 #[.int .i32 20013] w fun e w' => e = .returned (.int .i64 2) ∧ w = w' := by
  refine (width_any 20013 w).mono ?_
  rintro e w' ⟨rfl, hb⟩
  rw [show C.wid 20013 = 2 by decide]
  exact ⟨rfl, hb⟩
theorem kc_none (w : World) : Calls Try.prog 88 #[.int .i32 769] w fun e w' => e = .returned (.int .i64 0) ∧ w = w' := by
  refine (width_any 769 w).mono ?_
  rintro e w' ⟨rfl, hb⟩
  rw [show C.wid 769 = 0 by decide]
  exact ⟨rfl, hb⟩

/-- Equality of clusters. -/
theorem eq_cellsC (s z : C.Cl) (w : World) : (Op.equalIn 10000 75 (encC s) (encC z)).run Try.prog w = .ok (decide (s = z)) w := by
  have e : decide (s = z) = (((s.at_ : Int) == (z.at_ : Int)) && ((s.len : Int) == (z.len : Int)) && ((s.frm : Int) == (z.frm : Int)) && ((s.to_ : Int) == (z.to_ : Int)) && ((s.cells : Int) == (z.cells : Int))) := by
    rw [Bool.eq_iff_iff]
    cases s; cases z
    simp only [C.Cl.mk.injEq, decide_eq_true_eq, Bool.and_eq_true, beq_iff_eq, Int.natCast_inj, and_assoc]
  rw [e]
  obtain ⟨a, ha⟩ : ∃ a, ((s.at_ : Int) == (z.at_ : Int)) = a := ⟨_, rfl⟩
  obtain ⟨b, hb⟩ : ∃ a, ((s.len : Int) == (z.len : Int)) = a := ⟨_, rfl⟩
  obtain ⟨c, hc⟩ : ∃ a, ((s.frm : Int) == (z.frm : Int)) = a := ⟨_, rfl⟩
  obtain ⟨d, hd⟩ : ∃ a, ((s.to_ : Int) == (z.to_ : Int)) = a := ⟨_, rfl⟩
  obtain ⟨f, hf⟩ : ∃ a, ((s.cells : Int) == (z.cells : Int)) = a := ⟨_, rfl⟩
  rw [ha, hb, hc, hd, hf]
  unfold encC
  rw [show (10000 : Nat) = 9999 + 1 from rfl, run_equalIn_agg w 9999 _ _ _ (by kernel_rfl) (by kernel_rfl)]
  have hu3 : Try.prog.underlying 3 = some (.int .i64) := Try.underlying3
  cases a <;> cases b <;> cases c <;> cases d <;> cases f <;> simp [Op.eqFields, Program.fieldsOf, Try.underlying75, go_sem, ha, hb, hc, hd, hf, hu3]

/-- What holds while 'known' goes over its clusters: the result's box, the count's. -/
structure Kn (w : World) (v : Bool) (n : Nat) (W : World) : Prop where
  below : Below w.heap.size w W
  size : w.heap.size + 3 ≤ W.heap.size
  r : W.heap[w.heap.size]? = some (.cells #[.bool v] 4 (0, 0))
  n : W.heap[w.heap.size + 2]? = some (.cells #[.int .i64 (n : Int)] 3 (0, 0))
theorem Kn.fr {w : World} {v : Bool} {n : Nat} {A B : World} {S : Nat → Prop} (h : Kn w v n A) (hf : Fr S A B) (hS : ∀ k, k < w.heap.size + 3 → S k) : Kn w v n B :=
  ⟨h.below.trans (hf.toBelow (fun k hk => hS k (by omega)) (by have := h.size; omega)), Nat.le_trans h.size hf.size, (hf.block _ (Array.getElem?_eq_some_iff.1 h.r).1 (hS _ (by omega))).trans h.r, (hf.block _ (Array.getElem?_eq_some_iff.1 h.n).1 (hS _ (by omega))).trans h.n⟩
theorem Kn.setN {w : World} {v : Bool} {n : Nat} {A : World} (h : Kn w v n A) (m : Nat) : Kn w v m (A.setCell ⟨w.heap.size + 2, 0, none⟩ (.int .i64 (m : Int))) :=
  ⟨h.below.setCell (p := ⟨w.heap.size + 2, 0, none⟩) (by simp) _, by simpa [World.setCell] using h.size, by rw [Below.heap_setCell _ _ _ _ (by simp)]; exact h.r, heap_setCell_same h.n _⟩
theorem Kn.setR {w : World} {v : Bool} {n : Nat} {A : World} (h : Kn w v n A) (u : Bool) : Kn w u n (A.setCell ⟨w.heap.size, 0, none⟩ (.bool u)) :=
  ⟨h.below.setCell (p := ⟨w.heap.size, 0, none⟩) (by simp) _, by simpa [World.setCell] using h.size, heap_setCell_same h.r _, by rw [Below.heap_setCell _ _ _ _ (by simp)]; exact h.n⟩

end Go.Proofs.Ytclblidfamabdaa
