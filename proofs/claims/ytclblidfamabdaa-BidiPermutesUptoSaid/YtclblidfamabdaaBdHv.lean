/- head: the chapter's first examples: the values. -/
import Derived.Test.YtclblidfamabdaaBdSm
set_option linter.unusedVariables false
set_option linter.unusedSimpArgs false
namespace Go.Proofs.Ytclblidfamabdaa
open Go.RowKit Go.Shelf Go.Lib Go.BigFrame
attribute [local go_sem] Oper.semAt_some

def hd1 : ByteArray := ⟨#[97, 98, 215, 144, 215, 145, 99]⟩
def hd2 : ByteArray := ⟨#[40, 215, 144, 41]⟩
def hd3 : ByteArray := ⟨#[215, 144, 97]⟩
theorem hd1_n : (C.clus (U.toks hd1.data.toList)).length = 5 := by decide +kernel
theorem hd1_lv : ∀ j : Fin 5, B.lvAll 0 (B.kcl (U.toks hd1.data.toList)) 5 j.1 = ([0, 0, 1, 1, 0] : List Nat).getD j.1 0 := by decide +kernel
theorem hd1_ord : ∀ j : Fin 5, B.ord (B.lvAll 0 (B.kcl (U.toks hd1.data.toList)) 5) 5 j.1 = ([0, 1, 3, 2, 4] : List Nat).getD j.1 0 := by decide +kernel
theorem hd2_vis : visV hd2 1 = (hd2, 0) := by decide +kernel
theorem hd3_base : bseI (B.kcl (U.toks hd3.data.toList)) (C.clus (U.toks hd3.data.toList)).length 0 = 1 := by decide +kernel
def l5 (a b c d e : Int) (j : Nat) : Int := ([a, b, c, d, e] : List Int).getD j 0
theorem get5 (a b c d e j : Nat) (hj : j < 5) : ((([a, b, c, d, e] : List Nat).getD j 0 : Nat) : Int) = l5 a b c d e j := by
  match j, hj with
  | 0, _ => rfl
  | 1, _ => rfl
  | 2, _ => rfl
  | 3, _ => rfl
  | 4, _ => rfl
theorem hd1_lf : ∃ lf : Nat → Nat, B.lvAll 0 (B.kcl (U.toks hd1.data.toList)) 5 = lf ∧ (∀ j, j < 5 → (lf j : Int) = l5 0 0 1 1 0 j) ∧ (∀ j, j < 5 → (B.ord lf 5 j : Int) = l5 0 1 3 2 4 j) ∧ (∀ j, j < 5 → lf j ≤ 67108864) := by
  have h1 := hd1_lv
  have h2 := hd1_ord
  obtain ⟨lf, hlf⟩ : ∃ f, B.lvAll 0 (B.kcl (U.toks hd1.data.toList)) 5 = f := ⟨_, rfl⟩
  rw [hlf] at h1 h2
  refine ⟨lf, hlf, fun j hj => ?_, fun j hj => ?_, fun j hj => ?_⟩
  · rw [h1 ⟨j, hj⟩]; exact get5 0 0 1 1 0 j hj
  · rw [h2 ⟨j, hj⟩]; exact get5 0 1 3 2 4 j hj
  · rw [h1 ⟨j, hj⟩]
    show ([0, 0, 1, 1, 0] : List Nat).getD j 0 ≤ _
    have : ∀ j : Fin 5, ([0, 0, 1, 1, 0] : List Nat).getD j.1 0 ≤ 67108864 := by decide
    exact this ⟨j, hj⟩
end Go.Proofs.Ytclblidfamabdaa
