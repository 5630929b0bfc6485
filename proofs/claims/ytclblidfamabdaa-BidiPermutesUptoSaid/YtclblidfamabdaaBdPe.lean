/- An order has each place once; neighbours of one level stay neighbours: plain. -/
import Derived.Test.YtclblidfamabdaaBdOr
set_option linter.unusedVariables false
namespace Go.Proofs.Ytclblidfamabdaa
open Go.RowKit Go.Shelf Go.Lib

/-- Where a turn takes a place from. -/
def sgm (lv : Nat → Nat) (e m : Nat) (o : Nat → Nat) (k : Nat) : Nat := if geP lv e (o k) = true then B.lft (geP lv e) o k + B.rgt (geP lv e) o m k - 1 - k else k
theorem trn_sgm (lv : Nat → Nat) (e m : Nat) (o : Nat → Nat) (k : Nat) : B.trn lv e m o k = o (sgm lv e m o k) := by
  unfold B.trn sgm
  by_cases h : e ≤ lv (o k)
  · rw [if_pos h, if_pos (by simpa [geP] using h)]; rfl
  · rw [if_neg h, if_neg (by simpa [geP] using h)]
theorem lft_spec (p : Nat → Bool) (l : Nat → Nat) : ∀ k, (∀ q, B.lft p l k ≤ q → q < k → p (l q) = true) ∧ (B.lft p l k = 0 ∨ p (l (B.lft p l k - 1)) = false) := by
  intro k
  induction k with
  | zero => exact ⟨fun q _ h => absurd h (Nat.not_lt_zero _), .inl rfl⟩
  | succ k ih =>
    unfold B.lft
    by_cases h : p (l k) = true
    · rw [if_pos h]
      refine ⟨fun q h1 h2 => ?_, ih.2⟩
      rcases Nat.lt_or_ge q k with h3 | h3
      · exact ih.1 q h1 h3
      · obtain rfl : q = k := by omega
        exact h
    · rw [if_neg h]
      exact ⟨fun q h1 h2 => by omega, .inr (by simpa using h)⟩
theorem sgm_spec (lv : Nat → Nat) (e m : Nat) (o : Nat → Nat) (k : Nat) (hk : k < m) :
    (geP lv e (o k) = false ∧ sgm lv e m o k = k) ∨ ∃ i j, i ≤ k ∧ k < j ∧ j ≤ m ∧ (∀ q, i ≤ q → q < j → geP lv e (o q) = true) ∧ (j < m → geP lv e (o j) = false) ∧ ∀ q, i ≤ q → q < j → sgm lv e m o q = i + j - 1 - q := by
  cases hp : geP lv e (o k) with
  | false => exact .inl ⟨rfl, by unfold sgm; rw [hp]; rfl⟩
  | true =>
    refine .inr ?_
    have l1 := B.lft_le (geP lv e) o k
    obtain ⟨l2, l3⟩ := lft_spec (geP lv e) o k
    obtain ⟨r1, r2, r3, r4⟩ := B.rgt_spec (geP lv e) o m k (by omega)
    obtain ⟨i, hi⟩ : ∃ i, B.lft (geP lv e) o k = i := ⟨_, rfl⟩
    obtain ⟨j, hj⟩ : ∃ j, B.rgt (geP lv e) o m k = j := ⟨_, rfl⟩
    rw [hi] at l1 l2 l3
    rw [hj] at r1 r2 r3 r4
    have hkj : k < j := by
      rcases Nat.lt_or_ge k j with h | h
      · exact h
      · obtain rfl : j = k := by omega
        rw [r4 hk] at hp; cases hp
    have hall : ∀ q, i ≤ q → q < j → geP lv e (o q) = true := fun q h1 h2 => by
      rcases Nat.lt_or_ge q k with h | h
      · exact l2 q h1 h
      · exact r3 q h h2
    refine ⟨i, j, l1, hkj, r2, hall, r4, fun q h1 h2 => ?_⟩
    unfold sgm
    rw [if_pos (hall q h1 h2)]
    have e1 : B.lft (geP lv e) o q = i := by
      have := B.lft_is (geP lv e) o i l3 (q - i) (fun z h3 h4 => hall z h3 (by omega))
      rwa [show i + (q - i) = q by omega] at this
    have e2 : B.rgt (geP lv e) o m q = j := B.rgt_is (geP lv e) o m q j (by omega) r2 (fun z h3 h4 => hall z (by omega) h4) r4
    rw [e1, e2]
theorem sgm_lt (lv : Nat → Nat) (e m : Nat) (o : Nat → Nat) (k : Nat) (hk : k < m) : sgm lv e m o k < m := by
  rcases sgm_spec lv e m o k hk with ⟨_, h⟩ | ⟨i, j, h1, h2, h3, h4, h5, h6⟩
  · omega
  · have := h6 k h1 h2; omega
theorem sgm_sgm (lv : Nat → Nat) (e m : Nat) (o : Nat → Nat) (k : Nat) (hk : k < m) : sgm lv e m o (sgm lv e m o k) = k := by
  rcases sgm_spec lv e m o k hk with ⟨_, h⟩ | ⟨i, j, h1, h2, h3, h4, h5, h6⟩
  · rw [h, h]
  · rw [h6 k h1 h2, h6 _ (by omega) (by omega)]; omega
/-- Neighbours that are turned stay so, the other way round. -/
theorem sgm_next (lv : Nat → Nat) (e m : Nat) (o : Nat → Nat) (k : Nat) (hk : k + 1 < m) (h0 : geP lv e (o k) = true) (h1 : geP lv e (o (k + 1)) = true) : sgm lv e m o k = sgm lv e m o (k + 1) + 1 := by
  rcases sgm_spec lv e m o k (by omega) with ⟨h, _⟩ | ⟨i, j, g1, g2, g3, g4, g5, g6⟩
  · rw [h] at h0; cases h0
  · have : k + 1 < j := by
      rcases Nat.lt_or_ge (k + 1) j with h | h
      · exact h
      · obtain rfl : j = k + 1 := by omega
        rw [g5 hk] at h1; cases h1
    rw [g6 k g1 g2, g6 (k + 1) (by omega) this]; omega
def InjOn (m : Nat) (o : Nat → Nat) : Prop := (∀ k, k < m → o k < m) ∧ ∀ a b, a < m → b < m → o a = o b → a = b
theorem trn_inj (lv : Nat → Nat) (e m : Nat) (o : Nat → Nat) (h : InjOn m o) : InjOn m (B.trn lv e m o) := by
  refine ⟨fun k hk => B.trn_lt lv e m o h.1 k hk, fun a b ha hb hab => ?_⟩
  rw [trn_sgm, trn_sgm] at hab
  have := h.2 _ _ (sgm_lt lv e m o a ha) (sgm_lt lv e m o b hb) hab
  rw [← sgm_sgm lv e m o a ha, ← sgm_sgm lv e m o b hb, this]
/-- Neighbours of one level stand beside one another, the way that the turns so far tell. -/
def Ad (lv : Nat → Nat) (m e : Nat) (o : Nat → Nat) : Prop := ∀ x, x + 1 < m → lv x = lv (x + 1) → ∃ a b, a < m ∧ b < m ∧ o a = x ∧ o b = x + 1 ∧ (if (lv x + 1 - e) % 2 = 1 then a = b + 1 else b = a + 1)
theorem ad_start (lv : Nat → Nat) (m e : Nat) (he : ∀ x, x < m → lv x < e) : Ad lv m e id := fun x hx _ => by
  have := he x (by omega)
  exact ⟨x, x + 1, by omega, hx, rfl, rfl, by rw [if_neg (by omega)]⟩
theorem ad_step (lv : Nat → Nat) (m e : Nat) (o : Nat → Nat) (h : Ad lv m (e + 1) o) : Ad lv m e (B.trn lv e m o) := fun x hx hl => by
  obtain ⟨a, b, ha, hb, h1, h2, h3⟩ := h x hx hl
  refine ⟨sgm lv e m o a, sgm lv e m o b, sgm_lt lv e m o a ha, sgm_lt lv e m o b hb, by rw [trn_sgm, sgm_sgm lv e m o a ha, h1], by rw [trn_sgm, sgm_sgm lv e m o b hb, h2], ?_⟩
  by_cases hle : e ≤ lv x
  · have pa : geP lv e (o a) = true := by rw [h1]; exact decide_eq_true hle
    have pb : geP lv e (o b) = true := by rw [h2]; exact decide_eq_true (by omega)
    by_cases hc : (lv x + 1 - (e + 1)) % 2 = 1
    · rw [if_pos hc] at h3
      rw [if_neg (by omega)]
      subst h3
      have := sgm_next lv e m o b (by omega) pb pa
      omega
    · rw [if_neg hc] at h3
      rw [if_pos (by omega)]
      subst h3
      exact sgm_next lv e m o a (by omega) pa pb
  · have pa : sgm lv e m o a = a := by unfold sgm; rw [if_neg (by rw [h1]; simpa [geP] using hle)]
    have pb : sgm lv e m o b = b := by unfold sgm; rw [if_neg (by rw [h2]; simp [geP]; omega)]
    rw [pa, pb]
    have e1 : lv x + 1 - (e + 1) = 0 ∧ lv x + 1 - e = 0 := by omega
    rw [e1.1] at h3
    rw [e1.2]
    exact h3
theorem ordF_ok (lv : Nat → Nat) (m : Nat) : ∀ e o, InjOn m o → Ad lv m (e + 1) o → InjOn m (B.ordF lv m e o) ∧ Ad lv m 1 (B.ordF lv m e o) := by
  intro e
  induction e with
  | zero => intro o h1 h2; exact ⟨h1, h2⟩
  | succ e ih => intro o h1 h2; exact ih _ (trn_inj lv (e + 1) m o h1) (ad_step lv m (e + 1) o h2)
theorem ord_ok (lv : Nat → Nat) (m : Nat) : InjOn m (B.ord lv m) ∧ Ad lv m 1 (B.ord lv m) :=
  ordF_ok lv m (B.most lv m) id ⟨fun k h => h, fun a b _ _ h => h⟩ (ad_start lv m _ (fun x hx => by have := most_le lv m x hx; omega))
/-- An argument that is a slice of numbers. -/
def ArgI (W : World) (v : Value) (l : List Int) : Prop := (v = .slice none 0 0 ∧ l = []) ∨ ∃ a cap, v = .slice (some a) l.length cap ∧ l.length ≤ cap ∧ ∀ (j : Nat) (x : Int), l[j]? = some x → W.cell? (a.add j) = some (.int .i64 x)
theorem ArgI.rd {W : World} {v : Value} {l : List Int} (h : ArgI W v l) : Rd W v (fun j => l.getD j 0) l.length := by
  rcases h with ⟨rfl, rfl⟩ | ⟨a, cap, rfl, hle, hc⟩
  · exact ⟨none, 0, rfl, Nat.le_refl _, fun h => absurd h (by simp)⟩
  · refine ⟨_, cap, rfl, hle, fun h => ?_⟩
    obtain ⟨b, off, spot⟩ := a
    obtain ⟨x, hx⟩ : ∃ s, l[0]? = some s := ⟨_, List.getElem?_eq_getElem h⟩
    have hspot : spot = none := by simpa [Addr.add] using World.cell?_spot (hc 0 x hx)
    subst hspot
    refine ⟨b, off, rfl, fun j hj => ?_⟩
    have := hc j _ (List.getElem?_eq_getElem hj)
    rw [Go.WideShapes.add_plain] at this
    rw [this]
    show _ = some (Value.int .i64 (l.getD j 0))
    rw [List.getD_eq_getElem?_getD, List.getElem?_eq_getElem hj]
    rfl
end Go.Proofs.Ytclblidfamabdaa
