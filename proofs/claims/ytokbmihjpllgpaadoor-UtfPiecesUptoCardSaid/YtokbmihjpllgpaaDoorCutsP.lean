/- How a cut comes out: plain. -/
import Derived.Test.YtokbmihjpllgpaaDoorLawPlaces
set_option linter.unusedVariables false
namespace Go.Proofs.YtokbmihjpllgpaaDoor.U

theorem usum_cons (u : Nat) (t : Tk) (l : List Tk) : usum u (t :: l) = szu u t + usum u l := by simp [usum]
theorem plc_in (f t a : Nat) : ∀ (l : List Tk) (h th : Nat), a ≤ h + usum f l → a ≤ (plc f t a h th l).1 := by
  intro l
  induction l with
  | nil => intro h th hh; simpa [plc, usum] using hh
  | cons x l ih =>
    intro h th hh
    rw [plc]
    by_cases c : a ≤ h
    · rw [if_pos c]; exact c
    · rw [if_neg c]; exact ih _ _ (by rw [usum_cons] at hh; omega)
theorem plc_out (f t a : Nat) : ∀ (l : List Tk) (h th : Nat), h + usum f l < a → (plc f t a h th l).1 < a := by
  intro l
  induction l with
  | nil => intro h th hh; simpa [plc, usum] using hh
  | cons x l ih =>
    intro h th hh
    rw [usum_cons] at hh
    rw [plc, if_neg (by omega)]
    exact ih _ _ (by omega)
theorem plc_ge (f t a : Nat) : ∀ (l : List Tk) (h th : Nat), th ≤ (plc f t a h th l).2 ∧ (plc f t a h th l).2 ≤ th + usum t l := by
  intro l
  induction l with
  | nil => intro h th; simp [plc, usum]
  | cons x l ih =>
    intro h th
    rw [plc, usum_cons]
    by_cases c : a ≤ h
    · rw [if_pos c]; exact ⟨Nat.le_refl _, by simp only; omega⟩
    · rw [if_neg c]; have := ih (h + szu f x) (th + szu t x); omega
theorem plc_mono (f t a b : Nat) (hab : a ≤ b) : ∀ (l : List Tk) (h th : Nat), (plc f t a h th l).2 ≤ (plc f t b h th l).2 := by
  intro l
  induction l with
  | nil => intro h th; simp [plc]
  | cons x l ih =>
    intro h th
    rw [plc]
    by_cases c : a ≤ h
    · rw [if_pos c]; exact (plc_ge f t b (x :: l) h th).1
    · rw [if_neg c, plc, if_neg (by omega)]; exact ih _ _
theorem place_is (f t a : Nat) (l : List Tk) : (usum f l < a ∧ place f t a l = (0, 1)) ∨ (a ≤ usum f l ∧ place f t a l = (0, 21)) ∨ (a ≤ usum f l ∧ place f t a l = ((plc f t a 0 0 l).2, 0)) := by
  unfold place
  by_cases h : usum f l < a
  · have := plc_out f t a l 0 0 (by omega)
    exact .inl ⟨h, by rw [if_neg (by omega), if_neg (by omega)]⟩
  · have := plc_in f t a l 0 0 (by omega)
    by_cases e : (plc f t a 0 0 l).1 = a
    · exact .inr (.inr ⟨by omega, by rw [if_pos e]⟩)
    · exact .inr (.inl ⟨by omega, by rw [if_neg e, if_pos (by omega)]⟩)
theorem usum_one (l : List UInt8) : usum 1 (toks l) = l.length := by
  rw [← wsum_toks l]
  unfold usum wsum
  congr 1
end Go.Proofs.YtokbmihjpllgpaaDoor.U

namespace Go.Proofs.YtokbmihjpllgpaaDoor
/-- How many of this unit. -/
def total (s : ByteArray) (u : Int) : Nat := U.usum u.toNat (U.toks s.data.toList)
theorem total_1 (s : ByteArray) : total s 1 = s.size := by rw [total, show (1 : Int).toNat = 1 from rfl, U.usum_one, U.size_eq]
theorem total_2 (s : ByteArray) : total s 2 = (U.toks s.data.toList).length := by
  rw [total, show (2 : Int).toNat = 2 from rfl]
  unfold U.usum
  induction U.toks s.data.toList with
  | nil => rfl
  | cons x l ih => simp [U.szu] at ih ⊢; omega
theorem total_3 (s : ByteArray) : total s 3 = U.usum 3 (U.toks s.data.toList) := rfl

def none_ : ByteArray := ⟨#[]⟩
/-- How a cut by a known unit comes out: of both places' answers. -/
def CutOk (s : ByteArray) (a b n P1 E1 P2 E2 : Int) (S : ByteArray) (E : Int) : Prop :=
  ((a < 0 ∨ n < a) ∧ E1 = 1 ∧ S = none_ ∧ E = 1) ∨
  (0 ≤ a ∧ a ≤ n ∧ (E1 = 0 ∨ E1 = 21) ∧ (b < 0 ∨ n < b) ∧ E2 = 1 ∧ S = none_ ∧ E = 1) ∨
  (0 ≤ a ∧ a ≤ n ∧ 0 ≤ b ∧ b ≤ n ∧ (E1 = 0 ∨ E1 = 21) ∧ (E2 = 0 ∨ E2 = 21) ∧ b < a ∧ S = none_ ∧ E = 1) ∨
  (0 ≤ a ∧ a ≤ n ∧ 0 ≤ b ∧ b ≤ n ∧ ¬ b < a ∧ E1 = 21 ∧ (E2 = 0 ∨ E2 = 21) ∧ S = none_ ∧ E = 21) ∨
  (0 ≤ a ∧ a ≤ n ∧ 0 ≤ b ∧ b ≤ n ∧ ¬ b < a ∧ E1 = 0 ∧ E2 = 21 ∧ S = none_ ∧ E = 21) ∨
  (0 ≤ a ∧ a ≤ n ∧ 0 ≤ b ∧ b ≤ n ∧ ¬ b < a ∧ E1 = 0 ∧ E2 = 0 ∧ ∃ p1 p2 : Nat, P1 = p1 ∧ P2 = p2 ∧ p1 ≤ p2 ∧ p2 ≤ s.size ∧ S = s.extract p1 p2 ∧ E = 0)

/-- One place's answer, in bytes. -/
def PlIs (s : ByteArray) (u a : Int) : Prop :=
  ((a < 0 ∨ (total s u : Int) < a) ∧ (placeI s a u 1).2 = 1) ∨ (0 ≤ a ∧ a ≤ (total s u : Int) ∧ (placeI s a u 1).2 = 21) ∨
  (0 ≤ a ∧ a ≤ (total s u : Int) ∧ (placeI s a u 1).2 = 0 ∧ (placeI s a u 1).1 = (U.plc u.toNat 1 a.toNat 0 0 (U.toks s.data.toList)).2)
theorem plIs (s : ByteArray) (u a : Int) (hu : isUnit u = true) : PlIs s u a := by
  unfold PlIs
  have h1 : isUnit 1 = true := rfl
  have hp : placeI s a u 1 = if a < 0 then (0, 1) else U.place u.toNat 1 a.toNat (U.toks s.data.toList) := by
    unfold placeI; rw [hu, h1, if_neg (by simp)]; rfl
  by_cases h0 : a < 0
  · rw [if_pos h0] at hp
    rw [hp]
    exact .inl ⟨.inl h0, rfl⟩
  rw [if_neg h0] at hp
  unfold total
  rcases U.place_is u.toNat 1 a.toNat (U.toks s.data.toList) with ⟨h, e⟩ | ⟨h, e⟩ | ⟨h, e⟩
  · rw [e] at hp; rw [hp]; exact .inl ⟨.inr (by omega), rfl⟩
  · rw [e] at hp; rw [hp]; exact .inr (.inl ⟨by omega, by omega, rfl⟩)
  · rw [e] at hp; rw [hp]; exact .inr (.inr ⟨by omega, by omega, rfl, rfl⟩)

theorem cutOk_is (s : ByteArray) (u a b : Int) (hu : isUnit u = true) : ∃ S E, CutOk s a b (total s u) ((placeI s a u 1).1 : Int) ((placeI s a u 1).2 : Int) ((placeI s b u 1).1 : Int) ((placeI s b u 1).2 : Int) S E := by
  have ha := plIs s u a hu
  have hb := plIs s u b hu
  unfold PlIs at ha hb
  unfold CutOk
  rcases ha with ⟨h1, e1⟩ | ⟨h1, h1', e1⟩ | ⟨h1, h1', e1, q1⟩
  · exact ⟨none_, 1, .inl ⟨h1, by rw [e1]; rfl, rfl, rfl⟩⟩
  · rcases hb with ⟨h2, e2⟩ | ⟨h2, h2', e2⟩ | ⟨h2, h2', e2, q2⟩
    · exact ⟨none_, 1, .inr (.inl ⟨h1, h1', .inr (by rw [e1]; rfl), h2, by rw [e2]; rfl, rfl, rfl⟩)⟩
    · by_cases hl : b < a
      · exact ⟨none_, 1, .inr (.inr (.inl ⟨h1, h1', h2, h2', .inr (by rw [e1]; rfl), .inr (by rw [e2]; rfl), hl, rfl, rfl⟩))⟩
      · exact ⟨none_, 21, .inr (.inr (.inr (.inl ⟨h1, h1', h2, h2', hl, by rw [e1]; rfl, .inr (by rw [e2]; rfl), rfl, rfl⟩)))⟩
    · by_cases hl : b < a
      · exact ⟨none_, 1, .inr (.inr (.inl ⟨h1, h1', h2, h2', .inr (by rw [e1]; rfl), .inl (by rw [e2]; rfl), hl, rfl, rfl⟩))⟩
      · exact ⟨none_, 21, .inr (.inr (.inr (.inl ⟨h1, h1', h2, h2', hl, by rw [e1]; rfl, .inl (by rw [e2]; rfl), rfl, rfl⟩)))⟩
  · rcases hb with ⟨h2, e2⟩ | ⟨h2, h2', e2⟩ | ⟨h2, h2', e2, q2⟩
    · exact ⟨none_, 1, .inr (.inl ⟨h1, h1', .inl (by rw [e1]; rfl), h2, by rw [e2]; rfl, rfl, rfl⟩)⟩
    · by_cases hl : b < a
      · exact ⟨none_, 1, .inr (.inr (.inl ⟨h1, h1', h2, h2', .inl (by rw [e1]; rfl), .inr (by rw [e2]; rfl), hl, rfl, rfl⟩))⟩
      · exact ⟨none_, 21, .inr (.inr (.inr (.inr (.inl ⟨h1, h1', h2, h2', hl, by rw [e1]; rfl, by rw [e2]; rfl, rfl, rfl⟩))))⟩
    · by_cases hl : b < a
      · exact ⟨none_, 1, .inr (.inr (.inl ⟨h1, h1', h2, h2', .inl (by rw [e1]; rfl), .inl (by rw [e2]; rfl), hl, rfl, rfl⟩))⟩
      · refine ⟨_, 0, .inr (.inr (.inr (.inr (.inr ⟨h1, h1', h2, h2', hl, by rw [e1]; rfl, by rw [e2]; rfl, _, _, rfl, rfl, ?_, ?_, rfl, rfl⟩))))⟩
        · rw [q1, q2]; exact U.plc_mono _ _ _ _ (by omega) _ _ _
        · rw [q2, U.size_eq, ← U.usum_one]; have := (U.plc_ge u.toNat 1 b.toNat (U.toks s.data.toList) 0 0).2; omega
end Go.Proofs.YtokbmihjpllgpaaDoor
