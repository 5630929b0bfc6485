/- Blanks around a text: its signs, its cells: plain. -/
import Derived.Test.YtcngfcckajpkhaaCellX
set_option linter.unusedVariables false
namespace Go.Proofs.Ytcngfcckajpkhaa.U

theorem dec_blank (l : List UInt8) : dec (32 :: l) = (32, 1) := by
  unfold dec decM
  rw [if_pos (by show (32 : Nat) < 128; decide)]
  rfl
theorem toks_blanks (l : List UInt8) : ∀ F, toks (List.replicate F 32 ++ l) = List.replicate F (32, 1) ++ toks l := by
  intro F
  induction F with
  | zero => rfl
  | succ F ih =>
    rw [List.replicate_succ, List.cons_append, toks_cons, dec_blank, List.drop_succ_cons, List.drop_zero, ih]
    rfl
theorem decM_more (n b0 b1 b2 b3 : Nat) : (2 ≤ (decM n b0 b1 b2 b3).2 → 128 ≤ b1) ∧ (3 ≤ (decM n b0 b1 b2 b3).2 → 128 ≤ b2) ∧ (4 ≤ (decM n b0 b1 b2 b3).2 → 128 ≤ b3) := by
  have hl2 := lo2_is b0
  unfold decM
  repeat' split
  all_goals (simp only; omega)
theorem by_back (a b : List UInt8) (k : Nat) : by_ (a ++ b) (a.length + k) = by_ b k := by
  unfold by_
  rw [List.getD_eq_getElem?_getD, List.getD_eq_getElem?_getD, List.getElem?_append_right (by omega), Nat.add_sub_cancel_left]
theorem dec_before (a b : List UInt8) (h : a ≠ []) : (dec (a ++ 32 :: b)).2 ≤ a.length := by
  have hm := decM_more (a ++ 32 :: b).length (by_ (a ++ 32 :: b) 0) (by_ (a ++ 32 :: b) 1) (by_ (a ++ 32 :: b) 2) (by_ (a ++ 32 :: b) 3)
  have hf := dec_facts (a ++ 32 :: b) (by simp)
  have hb := by_back a (32 :: b) 0
  have e32 : by_ (32 :: b) 0 = 32 := rfl
  rw [e32, Nat.add_zero] at hb
  have hpos : 1 ≤ a.length := by cases a with | nil => exact absurd rfl h | cons => simp
  change (2 ≤ (dec (a ++ 32 :: b)).2 → _) ∧ (3 ≤ (dec (a ++ 32 :: b)).2 → _) ∧ (4 ≤ (dec (a ++ 32 :: b)).2 → _) at hm
  by_cases h1 : a.length = 1
  · rw [h1] at hb; rw [hb] at hm; omega
  by_cases h2 : a.length = 2
  · rw [h2] at hb; rw [hb] at hm; omega
  by_cases h3 : a.length = 3
  · rw [h3] at hb; rw [hb] at hm; omega
  omega
theorem toks_behind (D : Nat) (l : List UInt8) : toks (l ++ List.replicate D 32) = toks l ++ List.replicate D (32, 1) := by
  cases D with
  | zero => simp
  | succ D =>
    revert l
    refine toks_ind ?_ ?_
    · have := toks_blanks [] (D + 1)
      rw [List.append_nil, toks_nil, List.append_nil] at this
      rw [List.nil_append, this]; rfl
    · intro l hl ih
      have hle := dec_before l (List.replicate D 32) hl
      rw [← List.replicate_succ] at hle
      have he := dec_prefix l (List.replicate (D + 1) 32) hl hle
      rw [toks_ne _ (by simp), ← he, List.drop_append_of_le_length (by rw [← he] at hle; exact hle), ih, toks_ne l hl]
      rfl
end Go.Proofs.Ytcngfcckajpkhaa.U
namespace Go.Proofs.Ytcngfcckajpkhaa.C

/-- The cells of all that comes of a group and so many signs. -/
def tot (g : G) (l : List U.Tk) : Nat := cells (run g l).1 + (run g l).2.c.cells
theorem tot_nil (g : G) : tot g [] = g.c.cells := by simp [tot, run, cells]
theorem tot_cons (g : G) (t : U.Tk) (l : List U.Tk) : tot g (t :: l) = if takes g t.1 = true then tot (add g t.1 t.2) l else g.c.cells + tot (addF (new g) t.1 t.2) l := by
  by_cases h : takes g t.1 = true
  · rw [if_pos h]
    simp only [tot, run, step, h, if_true, List.nil_append]
  · rw [if_neg h]
    simp only [tot, run, step, h]
    simp only [Bool.false_eq_true, if_false, add_new, List.cons_append, List.nil_append, cells_cons]
    omega
theorem tot_append (g : G) (a b : List U.Tk) : tot g (a ++ b) = cells (run g a).1 + tot (run g a).2 b := by
  simp only [tot, run_append, cells_append]
  omega
theorem cells_clus (t : U.Tk) (l : List U.Tk) : cells (clus (t :: l)) = tot (addF zero t.1 t.2) l := by
  have e : add zero t.1 t.2 = addF zero t.1 t.2 := if_pos rfl
  simp only [clus, tot, e, cells_append]
  simp [cells]
/-- Groups that go on alike, so many cells apart. -/
structure Lk (d : Nat) (g g' : G) : Prop where
  last : g.last = g'.last
  cells : g.c.cells = g'.c.cells + d
  lt : g.c.frm < g.c.to_
  lt' : g'.c.frm < g'.c.to_
  same : (g.first = g'.first ∧ g.arrow = g'.arrow ∧ g.c.to_ - g.c.frm = g'.c.to_ - g'.c.frm ∧ d = 0) ∨ (g.first = 32 ∧ wid g'.first = 0 ∧ ctl g'.first = false ∧ g.arrow = false ∧ g'.arrow = false)
theorem Lk.takes {d : Nat} {g g' : G} (h : Lk d g g') (r : Nat) : takes g r = takes g' r := by
  unfold C.takes
  rcases h.same with ⟨a, b, c, _⟩ | ⟨a, b, c, _, _⟩
  · rw [a, c, h.last]
  · have f1 : flag ((32 : Nat) : Int) = false := by decide
    have f2 : flag (g'.first : Int) = false := by
      cases hf : flag (g'.first : Int) with
      | false => rfl
      | true => have := flag_wid hf; omega
    have w1 : wid ((32 : Nat) : Int) = 1 := by decide
    have c1 : ctl ((32 : Nat) : Int) = false := by decide
    rw [a, b, c, f1, f2, w1, c1]
    simp
theorem Lk.add {d : Nat} {g g' : G} (h : Lk d g g') (r n : Nat) (ht : C.takes g r = true) : Lk d (add g r n) (add g' r n) := by
  have e : C.add g r n = addM g r n := if_neg (by have := h.lt; omega)
  have e' : C.add g' r n = addM g' r n := if_neg (by have := h.lt'; omega)
  rw [e, e']
  have l1 := h.lt
  have l2 := h.lt'
  rcases h.same with ⟨a, b, c, rfl⟩ | ⟨a, b, c, k, k'⟩
  · refine ⟨rfl, ?_, by simp only [addM]; omega, by simp only [addM]; omega, .inl ⟨a, b, by simp only [addM]; omega, rfl⟩⟩
    simp only [addM, b, h.cells, Nat.add_zero]
  · have hf : flag (r : Int) = false := by
      cases hf : flag (r : Int) with
      | false => rfl
      | true =>
        have hw := flag_wid hf
        have f1 : flag ((32 : Nat) : Int) = false := by decide
        unfold C.takes at ht
        rw [if_neg (by omega), hf, if_pos rfl, a, f1] at ht
        cases ht
    refine ⟨rfl, ?_, by simp only [addM]; omega, by simp only [addM]; omega, .inr ⟨a, b, c, k, k'⟩⟩
    simp only [addM, hf, k, k', Bool.false_and, Bool.or_self, Bool.false_eq_true, if_false]
    exact h.cells
theorem lk_new (g g' : G) (r n : Nat) : Lk 0 (addF (new g) r n) (addF (new g') r n) :=
  ⟨rfl, rfl, by simp [addF, new], by simp [addF, new], .inl ⟨rfl, rfl, by simp [addF, new], rfl⟩⟩
theorem Lk.tot {d : Nat} {g g' : G} (h : Lk d g g') (l : List U.Tk) : tot g l = C.tot g' l + d := by
  induction l generalizing d g g' with
  | nil => rw [tot_nil, tot_nil]; exact h.cells
  | cons t l ih =>
    rw [tot_cons, tot_cons, ← h.takes t.1]
    by_cases ht : C.takes g t.1 = true
    · rw [if_pos ht, if_pos ht]
      exact ih (h.add t.1 t.2 ht)
    · rw [if_neg ht, if_neg ht]
      have := ih (lk_new g g' t.1 t.2)
      have := h.cells
      omega
theorem lk_zero (g : G) (r n : Nat) : Lk 0 (addF (new g) r n) (addF zero r n) :=
  ⟨rfl, rfl, by simp [addF, new], by simp [addF, zero], .inl ⟨rfl, rfl, by simp [addF, new, zero], rfl⟩⟩
theorem blank_takes (g : G) : takes g 32 = false := by
  unfold takes
  have f1 : flag ((32 : Nat) : Int) = false := by decide
  have w1 : wid ((32 : Nat) : Int) = 1 := by decide
  rw [f1, w1]; simp
theorem no_arrow {r : Nat} (h : wid (r : Int) = 0) : isArrow r = false := by
  cases hn : isArrow r with
  | false => rfl
  | true =>
    exfalso
    have hr : (8592 : Int) ≤ r ∧ (r : Int) ≤ 11263 := by
      simp [isArrow] at hn; omega
    have h0 : no (r : Int) = false := by simp [no, inR, rs0]; omega
    unfold wid at h
    rw [h0] at h
    simp at h
    split at h <;> cases h
/-- A blank ahead. -/
theorem blank_ahead (n : Nat) (l : List U.Tk) : cells (clus ((32, n) :: l)) = cells (clus l) + 1 := by
  rw [cells_clus]
  have w1 : wid ((32 : Nat) : Int) = 1 := by decide
  cases l with
  | nil => rw [tot_nil]; simp only [addF, w1]; rfl
  | cons u l =>
    rw [tot_cons, cells_clus]
    have hc : (addF zero 32 n).c.cells = 1 := by simp only [addF, w1]
    by_cases ht : takes (addF zero (32, n).1 (32, n).2) u.1 = true
    · rw [if_pos ht]
      have hw : wid (u.1 : Int) = 0 ∧ ctl (u.1 : Int) = false := by
        have f1 : flag ((32 : Nat) : Int) = false := by decide
        unfold takes at ht
        by_cases h : wid (u.1 : Int) = 0 ∧ ctl (u.1 : Int) = false
        · exact h
        · rw [if_neg h] at ht
          simp only [addF, f1, w1] at ht
          simp at ht
      have hfl : flag (u.1 : Int) = false := by
        cases hf : flag (u.1 : Int) with
        | false => rfl
        | true => have := flag_wid hf; omega
      have e : add (addF zero 32 n) u.1 u.2 = addM (addF zero 32 n) u.1 u.2 := if_neg (by simp [addF, zero])
      have ar : isArrow 32 = false := by decide
      have hlk : Lk 1 (addM (addF zero 32 n) u.1 u.2) (addF zero u.1 u.2) :=
        ⟨rfl, by simp [addM, addF, hfl, ar, hw.1]; exact w1, by simp [addM, addF, zero], by simp [addF, zero], .inr ⟨rfl, hw.1, hw.2, ar, no_arrow hw.1⟩⟩
      show tot (add (addF zero 32 n) u.1 u.2) l = _
      rw [e]
      exact hlk.tot l
    · rw [if_neg ht]
      have := (lk_zero (addF zero 32 n) u.1 u.2).tot l
      show (addF zero 32 n).c.cells + tot (addF (new (addF zero 32 n)) u.1 u.2) l = _
      omega
theorem blanks_ahead (F : Nat) (l : List U.Tk) : cells (clus (List.replicate F (32, 1) ++ l)) = cells (clus l) + F := by
  induction F with
  | zero => rfl
  | succ F ih => rw [List.replicate_succ, List.cons_append, blank_ahead, ih]; rfl
theorem blanks_behind (D : Nat) (l : List U.Tk) : cells (clus (l ++ List.replicate D (32, 1))) = cells (clus l) + D := by
  cases D with
  | zero => simp
  | succ D =>
    cases l with
    | nil =>
      have := blanks_ahead (D + 1) []
      rw [List.append_nil] at this
      rw [List.nil_append]; exact this
    | cons t l =>
      rw [List.cons_append, cells_clus, cells_clus, tot_append, List.replicate_succ, tot_cons, if_neg (by rw [blank_takes]; simp)]
      have h1 := (lk_zero (run (addF zero t.1 t.2) l).2 32 1).tot (List.replicate D (32, 1))
      have h2 := blanks_ahead (D + 1) []
      rw [List.append_nil, List.replicate_succ, cells_clus] at h2
      have h3 : cells (clus []) = 0 := rfl
      show cells (run (addF zero t.1 t.2) l).1 + ((run (addF zero t.1 t.2) l).2.c.cells + tot (addF (new (run (addF zero t.1 t.2) l).2) 32 1) (List.replicate D (32, 1))) = tot (addF zero t.1 t.2) l + (D + 1)
      have h4 : tot (addF zero t.1 t.2) l = cells (run (addF zero t.1 t.2) l).1 + (run (addF zero t.1 t.2) l).2.c.cells := rfl
      change tot (addF zero 32 1) (List.replicate D (32, 1)) = _ at h2
      omega
/-- The cells of a text between blanks. -/
theorem padded_cells (F D : Nat) (s : List UInt8) : cells (clus (U.toks (List.replicate F 32 ++ s ++ List.replicate D 32))) = cells (clus (U.toks s)) + F + D := by
  rw [U.toks_behind, blanks_behind, U.toks_blanks, blanks_ahead]
end Go.Proofs.Ytcngfcckajpkhaa.C
