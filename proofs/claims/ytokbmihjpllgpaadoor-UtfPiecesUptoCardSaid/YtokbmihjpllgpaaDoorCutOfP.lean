/- A cut of a cut: plain. -/
import Derived.Test.YtokbmihjpllgpaaDoorBackP
import Derived.Test.YtokbmihjpllgpaaDoorSeam
set_option linter.unusedVariables false
namespace Go.Proofs.YtokbmihjpllgpaaDoor.U

/-- At a sign's begin the text falls into two. -/
theorem toks_cut (post : List Tk) : ∀ (pre : List Tk) (l : List UInt8), toks l = pre ++ post → toks (l.take (wsum pre)) = pre ∧ toks (l.drop (wsum pre)) = post := by
  intro pre
  induction pre with
  | nil => intro l h; exact ⟨by simp [wsum, toks_nil], by simpa [wsum] using h⟩
  | cons x pre ih =>
    intro l h
    have hne : l ≠ [] := fun e => by subst e; rw [toks_nil] at h; cases h
    rw [toks_ne l hne, List.cons_append] at h
    obtain ⟨h1, h2⟩ := List.cons.inj h
    obtain ⟨i1, i2⟩ := ih _ h2
    have hd := dec_facts l hne
    have hw : wsum (x :: pre) = (dec l).2 + wsum pre := by rw [h1]; simp [wsum]
    rw [hw]
    have hl : (l.take ((dec l).2 + wsum pre)) ≠ [] := fun e => by
      have := congrArg List.length e
      rw [List.length_take, List.length_nil] at this
      omega
    have ht : dec (l.take ((dec l).2 + wsum pre)) = dec l := by
      have := dec_prefix (l.take ((dec l).2 + wsum pre)) (l.drop ((dec l).2 + wsum pre)) hl
      rw [List.take_append_drop] at this
      exact this (by rw [List.length_take]; omega)
    refine ⟨?_, ?_⟩
    · rw [toks_ne _ hl, ht, h1]
      congr 1
      rw [← h1, List.drop_take, Nat.add_sub_cancel_left]
      exact i1
    · rw [← List.drop_drop]
      exact i2
theorem usum_one' (l : List Tk) : usum 1 l = wsum l := by unfold usum wsum; congr 1

/-- The place of a part's place. -/
theorem place_shift (u : Nat) (pre mid post : List Tk) (hf : Fit (pre ++ mid ++ post)) (c : Nat) (hc : c ≤ usum u mid) :
    (place u 1 c mid = (0, 21) ∧ place u 1 (usum u pre + c) (pre ++ mid ++ post) = (0, 21)) ∨
    (∃ m1 m2, mid = m1 ++ m2 ∧ c = usum u m1 ∧ place u 1 c mid = (usum 1 m1, 0) ∧ place u 1 (usum u pre + c) (pre ++ mid ++ post) = (usum 1 pre + usum 1 m1, 0)) := by
  rcases place_is u 1 c mid with ⟨h, e⟩ | ⟨h, e⟩ | ⟨h, e⟩
  · omega
  · refine .inl ⟨e, ?_⟩
    rcases place_is u 1 (usum u pre + c) (pre ++ mid ++ post) with ⟨h', e'⟩ | ⟨h', e'⟩ | ⟨h', e'⟩
    · rw [usum_append, usum_append] at h'; omega
    · exact e'
    · exfalso
      obtain ⟨q1, q2, s1, s2, s3⟩ := place_split e'
      rw [List.append_assoc] at s1
      have key : ∃ m1 m2, mid = m1 ++ m2 ∧ c = usum u m1 := by
        rcases List.append_eq_append_iff.1 s1 with ⟨t1, r1, r2⟩ | ⟨t1, r1, r2⟩
        · rw [r1, usum_append] at s2
          rcases List.append_eq_append_iff.1 r2 with ⟨t2, r3, r4⟩ | ⟨t2, r3, r4⟩
          · rw [r3, usum_append] at s2
            have : usum u t2 = 0 := by omega
            have ht : t2 = [] := by
              cases t2 with
              | nil => rfl
              | cons y t2 =>
                have := szu_pos u (hf y (by rw [r4]; simp))
                rw [usum_cons] at *
                omega
            exact ⟨mid, [], by simp, by omega⟩
          · exact ⟨t1, t2, r3, by omega⟩
        · rw [r1, usum_append] at s2
          exact ⟨[], mid, rfl, by simp [usum] at s2 ⊢; omega⟩
      obtain ⟨m1, m2, rfl, rfl⟩ := key
      have := place_pre u 1 m1 m2 (fun x hx => hf x (by simp [hx]))
      rw [e] at this
      have := (Prod.mk.inj this).2
      omega
  · obtain ⟨m1, m2, e1, e2, e3⟩ := place_split e
    refine .inr ⟨m1, m2, e1, e2, by rw [e, e3], ?_⟩
    have := place_pre u 1 (pre ++ m1) (m2 ++ post) (fun x hx => hf x (by rw [e1]; simp at hx ⊢; rcases hx with h | h <;> simp [h]))
    rw [usum_append, usum_append, ← e2] at this
    rw [e1]
    simpa using this

theorem place_two (t a : Nat) (l : List Tk) (hf : Fit l) (h : a ≤ usum 2 l) : place 2 t a l ≠ (0, 21) := fun e => by
  rw [usum_two] at h
  have := place_take 2 t a l hf
  rw [usum_two, List.length_take, Nat.min_eq_left h, e] at this
  have := (Prod.mk.inj this).2
  omega
theorem melts_cut (l : List UInt8) (pre q : List Tk) (h : toks l = pre ++ q) : meltsB (l.take (wsum pre)) (l.drop (wsum pre)) = false := by
  obtain ⟨h1, h2⟩ := toks_cut q pre l h
  have hlen : (l.take (wsum pre)).length = wsum pre := by rw [← wsum_toks, h1]
  unfold meltsB
  rw [signs_seam, List.take_append_drop, signs, signs, signs, h1, h2, h, put_append, hlen, ← put_on]
theorem wsum_append (p q : List Tk) : wsum (p ++ q) = wsum p + wsum q := by simp [wsum]
end Go.Proofs.YtokbmihjpllgpaaDoor.U

namespace Go.Proofs.YtokbmihjpllgpaaDoor
theorem ext_list (s : ByteArray) (i j : Nat) : (s.extract i j).data.toList = (s.data.toList.drop i).take (j - i) := by
  rw [ByteArray.data_extract, Array.toList_extract, List.extract_eq_take_drop]
theorem ba_eq {s t : ByteArray} (h : s.data.toList = t.data.toList) : s = t := by
  cases s; cases t
  simp only at h
  congr 1
  exact Array.toList_inj.1 h
theorem app_list (s t : ByteArray) : (s ++ t).data.toList = s.data.toList ++ t.data.toList := by simp
theorem ext_size (s : ByteArray) (i j : Nat) (h : j ≤ s.size) : (s.extract i j).size = j - i := by
  rw [U.size_eq] at h ⊢
  rw [ext_list, List.length_take, List.length_drop]
  omega
theorem ext_ext (s : ByteArray) (i j a b : Nat) (hj : j ≤ s.size) (hb : i + b ≤ j) : (s.extract i j).extract a b = s.extract (i + a) (i + b) := by
  apply ba_eq
  rw [ext_list, ext_list, ext_list, List.drop_take, List.drop_drop, List.take_take]
  congr 1
  omega
theorem ext_three (s : ByteArray) (i j : Nat) (hij : i ≤ j) (hj : j ≤ s.size) : s.extract 0 i ++ s.extract i j ++ s.extract j s.size = s := by
  apply ba_eq
  rw [U.size_eq] at hj
  rw [app_list, app_list, ext_list, ext_list, ext_list, U.size_eq, List.drop_zero, Nat.sub_zero]
  have e1 : (s.data.toList.drop j).take (s.data.toList.length - j) = s.data.toList.drop j := List.take_of_length_le (by rw [List.length_drop]; omega)
  have e2 : s.data.toList.take i ++ (s.data.toList.drop i).take (j - i) = s.data.toList.take j := by
    rw [← List.take_add, show i + (j - i) = j by omega]
  rw [e1, e2, List.take_append_drop]
end Go.Proofs.YtokbmihjpllgpaaDoor
