/- Runes of bytes, bytes of runes: plain. -/
import Derived.Test.YtclblidfamabdaaBase
import Derived.Lib.RuneBytes
set_option linter.unusedVariables false
namespace Go.Proofs.Ytclblidfamabdaa
open Go.RowKit Go.Shelf Go.Lib Go.BigFrame

def runesL (l : List UInt8) : List Int := (U.toks l).map fun t => (t.1 : Int)
theorem runesFrom_eq (s : ByteArray) : ∀ (b i : Nat) (acc : Array Value), s.size - i ≤ b → Conv.runesFrom s b i acc = acc ++ ((U.toks (s.data.toList.drop i)).map fun t => Value.int .i32 (t.1 : Int)).toArray := by
  intro b
  induction b with
  | zero =>
    intro i acc h
    rw [toks_end (by omega)]
    simp [Conv.runesFrom]
  | succ b ih =>
    intro i acc h
    unfold Conv.runesFrom
    by_cases hi : i < s.size
    · have hd := decode_facts hi
      rw [if_pos hi, toks_at hi, List.map_cons]
      have h2 := ih (i + (Utf8.decode s i).2) (acc.push (.int .i32 (Int.ofNat (Utf8.decode s i).1))) (by omega)
      refine h2.trans ?_
      simp
    · rw [if_neg hi, toks_end hi]
      simp
attribute [local go_sem] Oper.semAt_some

/-- The bytes of runes. -/
def textB (l : List Int) : List UInt8 := l.flatMap Lib.encodeRune
attribute [local go_sem] Oper.semAt_some

def runesC (l : List Int) : List Value := l.flatMap Lib.runeCells
theorem runesC_snoc (l : List Int) (x : Int) : runesC (l ++ [x]) = runesC l ++ Lib.runeCells x := by simp [runesC]
theorem runesC_eq (l : List Int) : runesC l = Lib.byteCells (textB l) := by
  induction l with
  | nil => rfl
  | cons x l ih =>
    rw [runesC, List.flatMap_cons, textB, List.flatMap_cons]
    have e : Lib.byteCells (Lib.encodeRune x ++ List.flatMap Lib.encodeRune l) = Lib.byteCells (Lib.encodeRune x) ++ Lib.byteCells (List.flatMap Lib.encodeRune l) := by simp [Lib.byteCells]
    rw [e, Lib.byteCells_encodeRune]
    congr 1
theorem runesC_len (l : List Int) : (runesC l).length ≤ 4 * l.length := by
  induction l with
  | nil => simp [runesC]
  | cons x l ih =>
    have := (Lib.runeCells_le x).2
    rw [runesC] at ih
    rw [runesC, List.flatMap_cons, List.length_append, List.length_cons]
    omega
theorem runesC_one (l : List Int) : ∀ u ∈ runesC l, u.oneCell' = true := by
  intro u hu
  rw [runesC_eq] at hu
  simp [Lib.byteCells] at hu
  obtain ⟨_, _, rfl⟩ := hu
  rfl
theorem runesL_len (l : List UInt8) : (runesL l).length = (U.toks l).length := by simp [runesL]
theorem runesL_range (l : List UInt8) : ∀ x ∈ runesL l, -2147483648 ≤ x ∧ x ≤ 2147483647 := fun x hx => by
  obtain ⟨t, ht, rfl⟩ := List.mem_map.1 hx
  have := (U.toks_fact l t ht).2.2.1
  omega
end Go.Proofs.Ytclblidfamabdaa
