/- What is encoded decodes: plain. -/
import Derived.Test.YtokbmihjpllgpaaDoorText
import Derived.Test.YtokbmihjpllgpaaDoorSeam
set_option linter.unusedVariables false
namespace Go.Proofs.YtokbmihjpllgpaaDoor.U

/-- A rune that has an encoding, or U+FFFD. -/
def norm (r : Int) : Nat := if r < 0 ∨ (55296 ≤ r ∧ r ≤ 57343) ∨ 1114111 < r then 65533 else r.toNat

theorem by_map (zs : List Int) (rest : List UInt8) (k : Nat) (z : Int) (h : zs[k]? = some z) (hz : 0 ≤ z ∧ z < 256) : by_ (zs.map (fun x => x.toNat.toUInt8) ++ rest) k = z.toNat := by
  have hk : k < zs.length := (List.getElem?_eq_some_iff.1 h).1
  unfold by_
  rw [List.getD_eq_getElem?_getD, List.getElem?_append_left (by rw [List.length_map]; exact hk), List.getElem?_map, h]
  simp
  omega

theorem dec_enc (r : Int) (rest : List UInt8) : dec (Lib.encodeRune r ++ rest) = (norm r, (Lib.encodeRune r).length) := by
  unfold dec Lib.encodeRune norm
  by_cases hb : r < 0 ∨ (55296 ≤ r ∧ r ≤ 57343) ∨ 1114111 < r
  · rw [if_pos hb, Lib.encodeRuneZ_bad hb]
    rw [by_map [239, 191, 189] rest 0 239 rfl (by omega), by_map [239, 191, 189] rest 1 191 rfl (by omega), by_map [239, 191, 189] rest 2 189 rfl (by omega)]
    unfold decM
    rw [if_neg (by decide), if_neg (by rintro ⟨h1, h2, h3⟩; revert h2; decide), if_pos ⟨by decide, by decide, by simp <;> omega, by decide, by decide, by decide, by decide⟩]
    rfl
  rw [if_neg hb]
  by_cases c1 : r < 128
  · rw [Lib.encodeRuneZ_one (by omega) (by omega)]
    rw [by_map [r] rest 0 r rfl (by omega)]
    unfold decM
    rw [if_pos (by omega)]
    rfl
  by_cases c2 : r < 2048
  · rw [Lib.encodeRuneZ_two (by omega) (by omega)]
    rw [by_map [192 + r / 64, 128 + r % 64] rest 0 (192 + r / 64) rfl (by omega), by_map [192 + r / 64, 128 + r % 64] rest 1 (128 + r % 64) rfl (by omega)]
    unfold decM
    rw [if_neg (by omega), if_pos ⟨by omega, by omega, by simp <;> omega, by omega, by omega⟩]
    exact pair_eq _ (by omega)
  by_cases c3 : r < 65536
  · rw [Lib.encodeRuneZ_three (by omega)]
    rw [by_map [224 + r / 4096, 128 + r / 64 % 64, 128 + r % 64] rest 0 (224 + r / 4096) rfl (by omega), by_map [224 + r / 4096, 128 + r / 64 % 64, 128 + r % 64] rest 1 (128 + r / 64 % 64) rfl (by omega), by_map [224 + r / 4096, 128 + r / 64 % 64, 128 + r % 64] rest 2 (128 + r % 64) rfl (by omega)]
    have hl := lo2_is (224 + r / 4096).toNat
    have hh := hi2_is (224 + r / 4096).toNat
    unfold decM
    generalize lo2 (224 + r / 4096).toNat = lo at hl ⊢
    generalize hi2 (224 + r / 4096).toNat = hi at hh ⊢
    rw [if_neg (by omega), if_neg (by omega), if_pos ⟨by omega, by omega, by simp <;> omega, by omega, by omega, by omega, by omega⟩]
    exact pair_eq _ (by omega)
  · rw [Lib.encodeRuneZ_four (by omega) (by omega)]
    rw [by_map [240 + r / 262144, 128 + r / 4096 % 64, 128 + r / 64 % 64, 128 + r % 64] rest 0 (240 + r / 262144) rfl (by omega), by_map [240 + r / 262144, 128 + r / 4096 % 64, 128 + r / 64 % 64, 128 + r % 64] rest 1 (128 + r / 4096 % 64) rfl (by omega), by_map [240 + r / 262144, 128 + r / 4096 % 64, 128 + r / 64 % 64, 128 + r % 64] rest 2 (128 + r / 64 % 64) rfl (by omega), by_map [240 + r / 262144, 128 + r / 4096 % 64, 128 + r / 64 % 64, 128 + r % 64] rest 3 (128 + r % 64) rfl (by omega)]
    have hl := lo2_is (240 + r / 262144).toNat
    have hh := hi2_is (240 + r / 262144).toNat
    unfold decM
    generalize lo2 (240 + r / 262144).toNat = lo at hl ⊢
    generalize hi2 (240 + r / 262144).toNat = hi at hh ⊢
    rw [if_neg (by omega), if_neg (by omega), if_neg (by omega), if_pos ⟨by omega, by omega, by simp <;> omega, by omega, by omega, by omega, by omega, by omega, by omega⟩]
    exact pair_eq _ (by omega)

theorem enc_len (r : Int) : (Lib.encodeRune r).length = (Lib.encodeRuneZ r).length := by simp [Lib.encodeRune]
/-- The tokens of encoded runes. -/
def encT (l : List Int) : List Tk := l.map fun r => (norm r, (Lib.encodeRune r).length)
theorem toks_text (rest : List UInt8) : ∀ l : List Int, toks (textB l ++ rest) = encT l ++ toks rest := by
  intro l
  induction l with
  | nil => rfl
  | cons r l ih =>
    have hlen := (Lib.encodeRuneZ_length r).1
    rw [← enc_len] at hlen
    have e : textB (r :: l) ++ rest = Lib.encodeRune r ++ (textB l ++ rest) := by simp [textB]
    rw [e]
    have hne : Lib.encodeRune r ++ (textB l ++ rest) ≠ [] := fun h => by
      have := congrArg List.length h
      rw [List.length_append, List.length_nil] at this
      omega
    rw [toks_ne _ hne, dec_enc, List.drop_left, ih]
    rfl
theorem toks_textB (l : List Int) : toks (textB l) = encT l := by
  have := toks_text [] l
  rwa [List.append_nil, toks_nil, List.append_nil] at this
theorem norm_lt (r : Int) : norm r ≤ 1114111 ∧ (norm r < 55296 ∨ 57343 < norm r) := by
  unfold norm
  split <;> omega
theorem enc_norm (r : Int) : Lib.encodeRune (norm r : Int) = Lib.encodeRune r := by
  unfold norm
  by_cases hb : r < 0 ∨ (55296 ≤ r ∧ r ≤ 57343) ∨ 1114111 < r
  · rw [if_pos hb]
    unfold Lib.encodeRune
    rw [Lib.encodeRuneZ_bad hb]
    rfl
  · rw [if_neg hb, show ((r.toNat : Nat) : Int) = r by omega]
/-- None is bad. -/
theorem enc_good (r : Int) : isBad (norm r, (Lib.encodeRune r).length) = false := by
  unfold isBad
  by_cases h : norm r = 65533
  · have : (Lib.encodeRune r).length = 3 := by rw [← enc_norm r, h]; rfl
    rw [h, this]
    rfl
  · simp [h]
theorem norm_norm (n : Nat) (h : n ≤ 1114111 ∧ (n < 55296 ∨ 57344 ≤ n)) : norm (n : Int) = n := by
  unfold norm
  rw [if_neg (by omega)]
  omega
theorem runesL_text (l : List Int) : runesL (textB l) = l.map fun r => (norm r : Int) := by
  unfold runesL
  rw [toks_textB, encT, List.map_map]
  rfl
theorem textB_norm (l : List Int) : textB (l.map fun r => (norm r : Int)) = textB l := by
  induction l with
  | nil => rfl
  | cons r l ih => simp only [List.map_cons, textB, List.flatMap_cons] at ih ⊢; rw [ih, enc_norm]
theorem runesL_norm (s : List UInt8) : ((runesL s).map fun r => (norm r : Int)) = runesL s := by
  unfold runesL
  rw [List.map_map]
  apply List.map_congr_left
  intro t ht
  have := toks_fact s t ht
  simp only [Function.comp]
  rw [norm_norm t.1 ⟨this.2.2.1, this.2.2.2⟩]
/-- A repaired text's runes are the text's. -/
theorem runesL_rep (s : List UInt8) : runesL (textB (runesL s)) = runesL s := by rw [runesL_text, runesL_norm]
theorem put_bad (l : List Tk) (a : Nat) (h : ∀ t ∈ l, isBad t = false) : ∀ x ∈ put a l, x.bad = false := fun x hx => by
  obtain ⟨h1, h2⟩ := put_mem hx
  rw [h2, h _ h1]
theorem encT_good (l : List Int) : ∀ t ∈ encT l, isBad t = false := fun t ht => by
  obtain ⟨r, _, rfl⟩ := List.mem_map.1 ht
  exact enc_good r
theorem bads_text (l : List Int) : badsL (signs (textB l)) = [] := by
  unfold badsL
  rw [List.map_eq_nil_iff, List.filter_eq_nil_iff]
  intro x hx
  rw [signs, toks_textB] at hx
  simp [put_bad _ 0 (encT_good l) x hx]
end Go.Proofs.YtokbmihjpllgpaaDoor.U
