/- Long texts of one make: their signs, how many clusters, how many cells: plain. -/
import Derived.Test.YtcngfcckajpkhaaCellE
set_option linter.unusedVariables false
namespace Go.Proofs.Ytcngfcckajpkhaa.C
open U

def rep {α : Type} (p : List α) (n : Nat) : List α := (List.replicate n p).flatten
theorem rep_zero {α : Type} (p : List α) : rep p 0 = [] := rfl
theorem rep_front {α : Type} (p : List α) (n : Nat) : rep p (n + 1) = p ++ rep p n := by simp [rep, List.replicate_succ]
theorem rep_succ {α : Type} (p : List α) (n : Nat) : rep p (n + 1) = rep p n ++ p := by simp [rep, List.replicate_succ']
theorem rep_length {α : Type} (p : List α) (n : Nat) : (rep p n).length = n * p.length := by
  induction n with
  | zero => simp [rep_zero]
  | succ n ih => rw [rep_succ, List.length_append, ih, Nat.succ_mul]

/-- A text of one make: the bytes so far. -/
def lw2 : Nat → List UInt8
  | 0 => []
  | n + 1 => [240, 159, 145, 169] ++ rep [226, 128, 141, 240, 159, 145, 169] n
def lw : Nat → Nat → List UInt8
  | 0, n => rep [240, 159, 135, 166] n
  | 1, n => 97 :: rep [204, 129] n
  | 2, n => lw2 n
  | 3, n => rep [228] n
  | 4, n => rep [228, 184, 173] n
  | _ + 5, n => rep [10] n
theorem lw_length (k n : Nat) : (lw k n).length ≤ 1 + 7 * n := by
  match k with
  | 0 => simp [lw, rep_length]; omega
  | 1 => simp [lw, rep_length]; omega
  | 2 => cases n with
    | zero => simp [lw, lw2]
    | succ n => simp [lw, lw2, rep_length]; omega
  | 3 => simp [lw, rep_length]; omega
  | 4 => simp [lw, rep_length]; omega
  | _ + 5 => simp [lw, rep_length]; omega
/-- How many clusters; how many cells. -/
def lwC : Nat → Nat → Nat
  | 0, n => (n + 1) / 2
  | 1, _ => 1
  | 2, n => min n 1
  | _ + 3, n => n
def lwN : Nat → Nat → Nat
  | 0, n => n
  | 1, _ => 1
  | 2, n => min (2 * n) 2
  | 3, n => n
  | 4, n => 2 * n
  | _ + 5, _ => 0

theorem dec4 (b0 b1 b2 b3 : UInt8) (l : List UInt8) (r : Nat) (h : ∀ n, 4 ≤ n → decM n b0.toNat b1.toNat b2.toNat b3.toNat = (r, 4)) : dec ([b0, b1, b2, b3] ++ l) = (r, 4) :=
  h _ (by simp)
theorem toks4 (b0 b1 b2 b3 : UInt8) (l : List UInt8) (r : Nat) (h : ∀ n, 4 ≤ n → decM n b0.toNat b1.toNat b2.toNat b3.toNat = (r, 4)) : toks ([b0, b1, b2, b3] ++ l) = (r, 4) :: toks l := by
  rw [toks_ne _ (by simp), dec4 _ _ _ _ _ _ h]; rfl
theorem toks3 (b0 b1 b2 : UInt8) (l : List UInt8) (r : Nat) (h : ∀ n b3, 3 ≤ n → decM n b0.toNat b1.toNat b2.toNat b3 = (r, 3)) : toks ([b0, b1, b2] ++ l) = (r, 3) :: toks l := by
  have e : dec ([b0, b1, b2] ++ l) = (r, 3) := h _ _ (by simp)
  rw [toks_ne _ (by simp), e]; rfl
theorem toks2 (b0 b1 : UInt8) (l : List UInt8) (r : Nat) (h : ∀ n b2 b3, 2 ≤ n → decM n b0.toNat b1.toNat b2 b3 = (r, 2)) : toks ([b0, b1] ++ l) = (r, 2) :: toks l := by
  have e : dec ([b0, b1] ++ l) = (r, 2) := h _ _ _ (by simp)
  rw [toks_ne _ (by simp), e]; rfl
theorem toks1 (b0 : UInt8) (l : List UInt8) (h : b0.toNat < 128) : toks (b0 :: l) = (b0.toNat, 1) :: toks l := by
  have e : dec (b0 :: l) = (b0.toNat, 1) := by unfold dec decM; exact if_pos h
  rw [toks_ne _ (by simp), e]; rfl
theorem toks_bad (n : Nat) : toks (rep [228] n) = List.replicate n (65533, 1) := by
  induction n with
  | zero => rfl
  | succ n ih =>
    rw [rep_front, List.replicate_succ]
    have e : dec ([228] ++ rep [228] n) = (65533, 1) := by
      cases n with
      | zero => decide
      | succ n =>
        rw [rep_front]
        unfold dec decM
        have h0 : by_ ([228] ++ ([228] ++ rep [228] n)) 0 = 228 := rfl
        have h1 : by_ ([228] ++ ([228] ++ rep [228] n)) 1 = 228 := rfl
        rw [h0, h1]
        have hh : hi2 228 = 191 := by decide
        rw [if_neg (by omega), if_neg (by omega), if_neg (by rw [hh]; omega), if_neg (by omega)]
    rw [toks_ne _ (by simp), e]
    show _ :: toks (rep [228] n) = _
    rw [ih]
def lwT2 : Nat → List Tk
  | 0 => []
  | n + 1 => (128105, 4) :: rep [(8205, 3), (128105, 4)] n
def lwT : Nat → Nat → List Tk
  | 0, n => List.replicate n (127462, 4)
  | 1, n => (97, 1) :: List.replicate n (769, 2)
  | 2, n => lwT2 n
  | 3, n => List.replicate n (65533, 1)
  | 4, n => List.replicate n (20013, 3)
  | _ + 5, n => List.replicate n (10, 1)
theorem lw_toks (k n : Nat) : toks (lw k n) = lwT k n := by
  match k with
  | 0 =>
    simp only [lw, lwT]
    induction n with
    | zero => rfl
    | succ n ih =>
      rw [rep_front, toks4 _ _ _ _ _ 127462, ih, List.replicate_succ]
      intro n hn
      show decM n 240 159 135 166 = _
      unfold decM
      rw [if_neg (by omega), if_neg (by omega), if_neg (by omega), if_pos ⟨by omega, by omega, hn, by decide, by decide, by decide, by decide, by decide, by decide⟩]
  | 1 =>
    simp only [lw, lwT]
    rw [toks1 _ _ (by decide)]
    show _ :: _ = _ :: _
    congr 1
    induction n with
    | zero => rfl
    | succ n ih =>
      rw [rep_front, toks2 _ _ _ 769, ih, List.replicate_succ]
      intro n b2 b3 hn
      show decM n 204 129 b2 b3 = _
      unfold decM
      rw [if_neg (by omega), if_pos ⟨by omega, by omega, hn, by omega, by omega⟩]
  | 2 =>
    simp only [lw, lwT]
    cases n with
    | zero => rfl
    | succ n =>
      unfold lw2 lwT2
      have hW : ∀ n, 4 ≤ n → decM n (240 : UInt8).toNat (159 : UInt8).toNat (145 : UInt8).toNat (169 : UInt8).toNat = (128105, 4) := by
        intro n hn
        show decM n 240 159 145 169 = _
        unfold decM
        rw [if_neg (by omega), if_neg (by omega), if_neg (by omega), if_pos ⟨by omega, by omega, hn, by decide, by decide, by decide, by decide, by decide, by decide⟩]
      rw [toks4 _ _ _ _ _ 128105 hW]
      congr 1
      induction n with
      | zero => rfl
      | succ n ih =>
        rw [rep_front, rep_front, show [226, 128, 141, 240, 159, 145, 169] ++ rep [226, 128, 141, 240, 159, 145, 169] n = [226, 128, 141] ++ ([240, 159, 145, 169] ++ rep ([226, 128, 141, 240, 159, 145, 169] : List UInt8) n) from rfl, toks3 _ _ _ _ 8205, toks4 _ _ _ _ _ 128105 hW, ih]
        · rfl
        intro n b3 hn
        show decM n 226 128 141 b3 = _
        unfold decM
        rw [if_neg (by omega), if_neg (by omega), if_pos ⟨by omega, by omega, hn, by decide, by decide, by omega, by omega⟩]
  | 3 => exact toks_bad n
  | 4 =>
    simp only [lw, lwT]
    induction n with
    | zero => rfl
    | succ n ih =>
      rw [rep_front, toks3 _ _ _ _ 20013, ih, List.replicate_succ]
      intro n b3 hn
      show decM n 228 184 173 b3 = _
      unfold decM
      rw [if_neg (by omega), if_neg (by omega), if_pos ⟨by omega, by omega, hn, by decide, by decide, by omega, by omega⟩]
  | _ + 5 =>
    simp only [lw, lwT]
    induction n with
    | zero => rfl
    | succ n ih =>
      rw [rep_front]
      show toks (10 :: rep [10] n) = _
      rw [toks1 _ _ (by decide), ih, List.replicate_succ]
      rfl

/-- How many clusters are handed on. -/
def cnt (g : G) (l : List Tk) : Nat := (run g l).1.length
theorem cnt_nil (g : G) : cnt g [] = 0 := rfl
theorem cnt_cons (g : G) (t : Tk) (l : List Tk) : cnt g (t :: l) = if takes g t.1 = true then cnt (add g t.1 t.2) l else 1 + cnt (addF (new g) t.1 t.2) l := by
  by_cases h : takes g t.1 = true
  · rw [if_pos h]
    simp only [cnt, run, step, h, if_true, List.nil_append]
  · rw [if_neg h]
    simp only [cnt, run, step, h]
    simp [add_new, Nat.add_comm]
theorem clus_cnt (t : Tk) (l : List Tk) : (clus (t :: l)).length = cnt (addF zero t.1 t.2) l + 1 := by
  have e : add zero t.1 t.2 = addF zero t.1 t.2 := if_pos rfl
  simp only [clus, cnt, e, List.length_append, List.length_cons, List.length_nil]
theorem alone (r k : Nat) (P : G → Prop) (hP : ∀ g, P g → takes g r = false ∧ P (addF (new g) r k)) : ∀ (n : Nat) (g : G), P g → g.c.cells = wid r → cnt g (List.replicate n (r, k)) = n ∧ tot g (List.replicate n (r, k)) = (n + 1) * wid r := by
  intro n
  induction n with
  | zero => intro g hg hc; exact ⟨rfl, by rw [List.replicate_zero, tot_nil, hc]; simp⟩
  | succ n ih =>
    intro g hg hc
    obtain ⟨h1, h2⟩ := hP g hg
    obtain ⟨i1, i2⟩ := ih _ h2 (by simp [addF])
    rw [List.replicate_succ, cnt_cons, tot_cons]
    rw [if_neg (by simp [h1]), if_neg (by simp [h1])]
    refine ⟨by rw [i1]; omega, ?_⟩
    show g.c.cells + tot (addF (new g) r k) (List.replicate n (r, k)) = _
    rw [i2, hc, Nat.succ_mul (n + 1)]
    omega
theorem marked (n : Nat) : ∀ (g : G), g.first = 97 → g.arrow = false → g.c.cells = 1 → g.c.frm < g.c.to_ → cnt g (List.replicate n (769, 2)) = 0 ∧ tot g (List.replicate n (769, 2)) = 1 := by
  induction n with
  | zero => intro g _ _ h _; exact ⟨rfl, by rw [List.replicate_zero, tot_nil, h]⟩
  | succ n ih =>
    intro g h1 h2 h3 h4
    have ht : takes g 769 = true := by
      unfold takes
      rw [if_pos (by decide), h1]; decide
    have ha : add g 769 2 = addM g 769 2 := if_neg (by omega)
    obtain ⟨i1, i2⟩ := ih (addM g 769 2) h1 h2 (by simp only [addM, h2, Bool.false_and]; rw [if_neg (by decide)]; exact h3) (by simp only [addM]; omega)
    rw [List.replicate_succ, cnt_cons, tot_cons, if_pos ht, if_pos ht, ha]
    exact ⟨i1, i2⟩
theorem flags (n : Nat) : ∀ (g : G), g.first = 127462 → (g.c.to_ = g.c.frm + 1 → g.c.cells = 1 → cnt g (List.replicate n (127462, 4)) = n / 2 ∧ tot g (List.replicate n (127462, 4)) = n + 1) ∧
    (g.c.to_ = g.c.frm + 2 → g.c.cells = 2 → cnt g (List.replicate n (127462, 4)) = (n + 1) / 2 ∧ tot g (List.replicate n (127462, 4)) = n + 2) := by
  induction n with
  | zero => intro g _; exact ⟨fun _ h => ⟨rfl, by rw [List.replicate_zero, tot_nil, h]⟩, fun _ h => ⟨rfl, by rw [List.replicate_zero, tot_nil, h]⟩⟩
  | succ n ih =>
    intro g h1
    have hw : wid ((127462 : Nat) : Int) = 1 := by decide
    have hf : flag ((127462 : Nat) : Int) = true := by decide
    have hq : takes g 127462 = decide (g.c.to_ - g.c.frm = 1) := by
      unfold takes
      rw [if_neg (by rw [hw]; omega), hf, if_pos rfl, h1, hf, Bool.true_and]
    refine ⟨fun h2 h3 => ?_, fun h2 h3 => ?_⟩
    · have ht : takes g 127462 = true := by rw [hq]; exact decide_eq_true (by omega)
      have ha : add g 127462 4 = addM g 127462 4 := if_neg (by omega)
      obtain ⟨i1, i2⟩ := (ih (addM g 127462 4) h1).2 (by simp only [addM]; omega) (by simp only [addM, hf, Bool.true_or, if_true])
      rw [List.replicate_succ, cnt_cons, tot_cons, if_pos ht, if_pos ht, ha]
      exact ⟨i1, i2⟩
    · have ht : takes g 127462 = false := by rw [hq]; exact decide_eq_false (by omega)
      obtain ⟨i1, i2⟩ := (ih (addF (new g) 127462 4) rfl).1 (by simp [addF, new]) (by simp only [addF, hw])
      rw [List.replicate_succ, cnt_cons, tot_cons, if_neg (by simp [ht]), if_neg (by simp [ht])]
      show 1 + cnt (addF (new g) 127462 4) _ = _ ∧ g.c.cells + tot (addF (new g) 127462 4) _ = _
      omega
theorem joined (n : Nat) : ∀ (g : G), g.first = 128105 → g.arrow = false → g.c.cells = 2 → g.c.frm < g.c.to_ → cnt g (rep [(8205, 3), (128105, 4)] n) = 0 ∧ tot g (rep [(8205, 3), (128105, 4)] n) = 2 := by
  induction n with
  | zero => intro g _ _ h _; exact ⟨rfl, by rw [rep_zero, tot_nil, h]⟩
  | succ n ih =>
    intro g h1 h2 h3 h4
    have ht : takes g 8205 = true := by
      unfold takes
      rw [if_pos (by decide), h1]; decide
    have ha : add g 8205 3 = addM g 8205 3 := if_neg (by omega)
    have hc1 : (addM g 8205 3).c.cells = 2 := by simp only [addM, h2, Bool.false_and]; rw [if_neg (by decide)]; exact h3
    have ht2 : takes (addM g 8205 3) 128105 = true := by
      unfold takes
      rw [if_neg (by decide), if_neg (by decide)]
      simp only [addM, h1]
      decide
    have ha2 : add (addM g 8205 3) 128105 4 = addM (addM g 8205 3) 128105 4 := if_neg (by simp only [addM]; omega)
    obtain ⟨i1, i2⟩ := ih (addM (addM g 8205 3) 128105 4) h1 h2 (by
      show (if (flag ((128105 : Nat) : Int) || ((addM g 8205 3).arrow && decide (128105 = 65039))) = true then 2 else (addM g 8205 3).c.cells) = 2
      rw [show flag ((128105 : Nat) : Int) = false by decide, show (addM g 8205 3).arrow = false from h2]
      simp [hc1]) (by simp only [addM]; omega)
    rw [rep_front]
    show cnt g ((8205, 3) :: (128105, 4) :: rep _ n) = _ ∧ tot g ((8205, 3) :: (128105, 4) :: rep _ n) = _
    rw [cnt_cons, tot_cons, if_pos ht, if_pos ht, ha, cnt_cons, tot_cons, if_pos ht2, if_pos ht2, ha2]
    exact ⟨i1, i2⟩
theorem lw_clus (k n : Nat) : (clus (toks (lw k n))).length = lwC k n ∧ cells (clus (toks (lw k n))) = lwN k n := by
  rw [lw_toks]
  match k with
  | 0 =>
    simp only [lwC, lwN, lwT]
    cases n with
    | zero => exact ⟨rfl, rfl⟩
    | succ n =>
      rw [List.replicate_succ, clus_cnt, cells_clus]
      obtain ⟨i1, i2⟩ := (flags n (addF zero 127462 4) rfl).1 (by simp [addF, zero]) (by decide)
      show cnt (addF zero 127462 4) _ + 1 = _ ∧ tot (addF zero 127462 4) _ = _
      omega
  | 1 =>
    simp only [lwC, lwN, lwT]
    rw [clus_cnt, cells_clus]
    obtain ⟨i1, i2⟩ := marked n (addF zero 97 1) rfl rfl (by decide) (by simp [addF, zero])
    show cnt (addF zero 97 1) _ + 1 = _ ∧ tot (addF zero 97 1) _ = _
    omega
  | 2 =>
    simp only [lwC, lwN, lwT]
    cases n with
    | zero => exact ⟨rfl, rfl⟩
    | succ n =>
      unfold lwT2
      rw [clus_cnt, cells_clus]
      obtain ⟨i1, i2⟩ := joined n (addF zero 128105 4) rfl rfl (by decide) (by simp [addF, zero])
      show cnt (addF zero 128105 4) _ + 1 = _ ∧ tot (addF zero 128105 4) _ = _
      omega
  | 3 =>
    simp only [lwC, lwN, lwT]
    cases n with
    | zero => exact ⟨rfl, rfl⟩
    | succ n =>
      rw [List.replicate_succ, clus_cnt, cells_clus]
      have hw : wid ((65533 : Nat) : Int) = 1 := by decide
      obtain ⟨i1, i2⟩ := alone 65533 1 (fun _ => True) (fun g _ => ⟨by unfold takes; rw [hw, if_neg (by omega), if_neg (by decide)]; rfl, trivial⟩) n (addF zero 65533 1) trivial (by simp [addF])
      rw [hw] at i2
      show cnt (addF zero 65533 1) _ + 1 = _ ∧ tot (addF zero 65533 1) _ = _
      omega
  | 4 =>
    simp only [lwC, lwN, lwT]
    cases n with
    | zero => exact ⟨rfl, rfl⟩
    | succ n =>
      rw [List.replicate_succ, clus_cnt, cells_clus]
      have hw : wid ((20013 : Nat) : Int) = 2 := by decide
      obtain ⟨i1, i2⟩ := alone 20013 3 (fun g => g.last = 20013) (fun g hg => ⟨by unfold takes; rw [hw, if_neg (by omega), if_neg (by decide), hg]; rfl, rfl⟩) n (addF zero 20013 3) rfl (by simp [addF])
      rw [hw] at i2
      show cnt (addF zero 20013 3) _ + 1 = _ ∧ tot (addF zero 20013 3) _ = _
      omega
  | _ + 5 =>
    simp only [lwC, lwN, lwT]
    cases n with
    | zero => exact ⟨rfl, rfl⟩
    | succ n =>
      rw [List.replicate_succ, clus_cnt, cells_clus]
      have hw : wid ((10 : Nat) : Int) = 0 := by decide
      have hc : ctl ((10 : Nat) : Int) = true := by decide
      obtain ⟨i1, i2⟩ := alone 10 1 (fun _ => True) (fun g _ => ⟨by unfold takes; rw [hw, hc, if_neg (by simp), if_neg (by decide)]; rfl, trivial⟩) n (addF zero 10 1) trivial (by simp [addF])
      rw [hw] at i2
      show cnt (addF zero 10 1) _ + 1 = _ ∧ tot (addF zero 10 1) _ = _
      omega
end Go.Proofs.Ytcngfcckajpkhaa.C
