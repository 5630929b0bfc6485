/- Isolates in one another: plain. -/
import Derived.Test.YtclblidfamabdaaG11
set_option linter.unusedVariables false
namespace Go.Proofs.Ytclblidfamabdaa
open Go.RowKit Go.Shelf Go.Lib

/-! A letter, n signs that open an isolate of a kind, a letter. -/
def dpT (n kd : Nat) : List U.Tk := (97, 1) :: (List.replicate n (8294 + kd, 3) ++ [(20013, 3)])
def dpB (n kd : Nat) : List UInt8 := 97 :: (List.replicate n ([226, 129, (166 + kd).toUInt8] : List UInt8)).flatten
def dpE : List UInt8 := [228, 184, 173]
theorem dpT_len (n kd : Nat) : (dpT n kd).length = n + 2 := by simp [dpT]
theorem dpB_succ (n kd : Nat) : dpB (n + 1) kd = dpB n kd ++ [226, 129, (166 + kd).toUInt8] := by
  unfold dpB
  rw [List.replicate_succ', List.flatten_append, List.cons_append]
  simp
theorem toks_iso (kd : Nat) (hk : kd < 3) (r : List UInt8) : U.toks ([226, 129, (166 + kd).toUInt8] ++ r) = (8294 + kd, 3) :: U.toks r := by
  have h : U.dec ([226, 129, (166 + kd).toUInt8] ++ r) = (8294 + kd, 3) := by
    have e : U.dec ([226, 129, (166 + kd).toUInt8] ++ r) = U.decM (r.length + 3) 226 129 (166 + kd) (U.by_ r 0) := by
      unfold U.dec
      have h0 : U.by_ ([226, 129, (166 + kd).toUInt8] ++ r) 2 = 166 + kd := by
        match kd, hk with
        | 0, _ => rfl
        | 1, _ => rfl
        | 2, _ => rfl
      rw [h0]
      rfl
    rw [e]
    unfold U.decM
    obtain ⟨m, hm⟩ : ∃ m, r.length + 3 = m := ⟨_, rfl⟩
    have h3 : 3 ≤ m := by omega
    rw [hm]
    have l1 := U.lo2_is 226
    have l2 := U.hi2_is 226
    rw [if_neg (by omega), if_neg (by omega), if_pos ⟨by omega, by omega, h3, by omega, by omega, by omega, by omega⟩]
    have e : (226 - 224) * 4096 + (129 - 128) * 64 + (166 + kd - 128) = 8294 + kd := by omega
    rw [e]
  rw [U.toks_ne _ (by simp), h, show ([226, 129, (166 + kd).toUInt8] ++ r).drop ((8294 + kd, 3) : Nat × Nat).2 = r from rfl]
theorem toks_iso_n (kd : Nat) (hk : kd < 3) (r : List UInt8) : ∀ n, U.toks ((List.replicate n ([226, 129, (166 + kd).toUInt8] : List UInt8)).flatten ++ r) = List.replicate n (8294 + kd, 3) ++ U.toks r := by
  intro n
  induction n with
  | zero => simp
  | succ n ih =>
    rw [List.replicate_succ, List.flatten_cons, List.append_assoc, toks_iso kd hk, ih]
    rfl
theorem dp_toks (n kd : Nat) (hk : kd < 3) : U.toks (dpB n kd ++ dpE) = dpT n kd := by
  have h : U.dec (dpB n kd ++ dpE) = (97, 1) := by
    unfold dpB
    rw [List.cons_append]
    unfold U.dec
    have hl : (97 :: ((List.replicate n ([226, 129, (166 + kd).toUInt8] : List UInt8)).flatten ++ dpE)).length ≠ 0 := by simp
    generalize ((List.replicate n ([226, 129, (166 + kd).toUInt8] : List UInt8)).flatten ++ dpE) = r at *
    simp [U.decM, U.by_]
  rw [U.toks_ne _ (by simp [dpB]), h]
  unfold dpB dpT
  rw [List.cons_append, List.drop_succ_cons, List.drop_zero, toks_iso_n kd hk]
  rfl
theorem dp_rune (n kd k : Nat) : C.rune (dpT n kd) k = if k = 0 then 97 else if k ≤ n then 8294 + kd else if k = n + 1 then 20013 else 0 := by
  unfold C.rune dpT
  cases k with
  | zero => rfl
  | succ k =>
    rw [List.getElem?_cons_succ, if_neg (by omega)]
    by_cases h1 : k < n
    · rw [List.getElem?_append_left (by simpa using h1), if_pos (by omega)]
      simp [h1]
    · rw [if_neg (by omega)]
      by_cases h2 : k = n
      · subst h2
        rw [if_pos rfl, List.getElem?_append_right (by simp)]
        simp
      · rw [if_neg (by omega), List.getElem?_eq_none (by simp; omega)]
        rfl
theorem wid_iso : ∀ kd : Fin 3, C.wid ((8294 + kd.1 : Nat) : Int) = 0 ∧ C.ctl ((8294 + kd.1 : Nat) : Int) = true ∧ C.flag ((8294 + kd.1 : Nat) : Int) = false ∧ B.cls ((8294 + kd.1 : Nat) : Int) = 9 + kd.1 := by decide +kernel
theorem wid_end : C.wid ((20013 : Nat) : Int) = 2 ∧ C.flag ((20013 : Nat) : Int) = false ∧ B.cls ((20013 : Nat) : Int) = 17 ∧ B.cls ((97 : Nat) : Int) = 17 ∧ B.cls ((0 : Nat) : Int) = 16 := by decide +kernel
/-- Each sign stands alone. -/
theorem dp_joins (n kd frm j : Nat) (hk : kd < 3) (h1 : frm < j) (h2 : j < n + 2) : C.joins (dpT n kd) frm j = false := by
  unfold C.joins
  have ej := dp_rune n kd j
  rw [if_neg (by omega)] at ej
  obtain ⟨q1, q2, q3, q4⟩ := wid_iso ⟨kd, hk⟩
  obtain ⟨q5, q6, _⟩ := wid_end
  simp only at q1 q2 q3
  by_cases h3 : j ≤ n
  · rw [if_pos h3] at ej
    rw [ej, if_neg (by rw [q2]; simp), if_neg (by rw [q1]; simp), q3]
    rfl
  · rw [if_neg h3, if_pos (by omega)] at ej
    have ep := dp_rune n kd (j - 1)
    have hp : C.rune (dpT n kd) (j - 1) ≠ 8205 := by
      rw [ep]
      split
      · decide
      · split
        · omega
        · split <;> omega
    rw [ej, if_neg (by rw [q5]; simp), if_neg (fun h => hp h.2.1), q6]
    rfl
theorem single_clus (l : List U.Tk) (h : ∀ frm j, frm < j → j < l.length → C.joins l frm j = false) : (C.clus l).length = l.length ∧ ∀ k, k ≤ l.length → C.sgF l k = k := by
  have hst : ∀ k x, (C.clus l)[k]? = some x → C.sgF l (k + 1) = C.sgF l k + 1 := fun k x hx => by
    obtain ⟨h1, h2, h3, h4, h5, h6, h7, h8, h9, h10⟩ := C.clus_at l k x hx
    have e1 : C.sgF l k = x.frm := h6
    have e2 : C.sgF l (k + 1) = x.to_ := h7
    rw [e1, e2]
    rcases Nat.lt_or_ge (x.frm + 1) x.to_ with hh | hh
    · have := h9 (x.frm + 1) (by omega) hh
      rw [h x.frm (x.frm + 1) (by omega) (by omega)] at this
      cases this
    · omega
  have h0 : C.sgF l 0 = 0 := C.sgF_zero l
  have hk : ∀ k, k ≤ (C.clus l).length → C.sgF l k = k := by
    intro k
    induction k with
    | zero => intro _; exact h0
    | succ k ih => intro hk; rw [hst k _ (List.getElem?_eq_getElem (by omega)), ih (by omega)]
  have hend : C.sgF l (C.clus l).length = l.length := by
    unfold C.sgF C.start
    rw [List.getElem?_eq_none (Nat.le_refl _)]; rfl
  have hlen : (C.clus l).length = l.length := by rw [← hend, hk _ (Nat.le_refl _)]
  exact ⟨hlen, fun k hk2 => hk k (by omega)⟩
theorem dp_single (n kd : Nat) (hk : kd < 3) : (C.clus (dpT n kd)).length = n + 2 ∧ ∀ k, k ≤ n + 2 → C.sgF (dpT n kd) k = k := by
  have := single_clus (dpT n kd) (fun frm j h1 h2 => dp_joins n kd frm j hk h1 (by rwa [dpT_len] at h2))
  rwa [dpT_len] at this
theorem dp_cls (n kd : Nat) (hk : kd < 3) (j : Nat) : B.kcl (dpT n kd) j = if j = 0 then 17 else if j ≤ n then 9 + kd else if j = n + 1 then 17 else 16 := by
  obtain ⟨h1, h2⟩ := dp_single n kd hk
  obtain ⟨_, _, e1, e2, e3⟩ := wid_end
  obtain ⟨_, _, _, e4⟩ := wid_iso ⟨kd, hk⟩
  unfold B.kcl
  have hs : C.sgF (dpT n kd) j = if j ≤ n + 2 then j else n + 2 := by
    by_cases h : j ≤ n + 2
    · rw [if_pos h]; exact h2 j h
    · rw [if_neg h]
      unfold C.sgF C.start
      rw [List.getElem?_eq_none (by omega)]
      exact dpT_len n kd
  rw [hs]
  by_cases h0 : j = 0
  · subst h0
    rw [if_pos (by omega), if_pos rfl, dp_rune, if_pos rfl]; exact e2
  · rw [if_neg h0]
    by_cases h3 : j ≤ n
    · rw [if_pos (by omega), if_pos h3, dp_rune, if_neg h0, if_pos h3]; exact e4
    · rw [if_neg h3]
      by_cases h4 : j = n + 1
      · rw [if_pos (by omega), if_pos h4, dp_rune, if_neg h0, if_neg h3, if_pos h4]; exact e1
      · rw [if_neg h4]
        by_cases h5 : j ≤ n + 2
        · rw [if_pos h5, dp_rune, if_neg h0, if_neg h3, if_neg h4]; exact e3
        · rw [if_neg h5, dp_rune, if_neg (by omega), if_neg (by omega), if_neg (by omega)]; exact e3

/-! Where they close. -/
structure Dp (n kd : Nat) (c : Nat → Nat) : Prop where
  k3 : kd < 3
  c0 : c 0 = 17
  ci : ∀ j, 1 ≤ j → j ≤ n → c j = 9 + kd
  ce : c (n + 1) = 17
  co : ∀ j, n + 1 < j → c j = 16
theorem dp_ok (n kd : Nat) (hk : kd < 3) : Dp n kd (B.kcl (dpT n kd)) :=
  ⟨hk, by rw [dp_cls n kd hk, if_pos rfl], fun j h1 h2 => by rw [dp_cls n kd hk, if_neg (by omega), if_pos h2], by rw [dp_cls n kd hk, if_neg (by omega), if_neg (by omega), if_pos rfl], fun j h => by rw [dp_cls n kd hk, if_neg (by omega), if_neg (by omega), if_neg (by omega)]⟩
theorem Dp.pend {n kd : Nat} {c : Nat → Nat} (h : Dp n kd c) : B.pend c (n + 2) = n + 2 := by
  unfold B.pend
  rw [if_neg (fun x => by have := x.2; rw [show n + 2 - 1 = n + 1 by omega, h.ce] at this; omega)]
theorem Dp.run {n kd : Nat} {c : Nat → Nat} (h : Dp n kd c) : ∀ i, i ≤ n → (B.mrun c (n + 2) (i + 1)).h = (if i ≤ 60 then i else 60) ∧ ∀ x, (B.mrun c (n + 2) (i + 1)).cl x = if 1 ≤ x ∧ x ≤ i ∧ x ≤ 60 then n + 2 else 0 := by
  intro i
  induction i with
  | zero =>
    intro _
    have e : B.mrun c (n + 2) 1 = B.mstep c (n + 2) (B.mrun c (n + 2) 0) 0 := rfl
    rw [e, ms_other (by rw [h.c0]; rfl) (by rw [h.c0]; decide)]
    exact ⟨rfl, fun x => by rw [if_neg (by omega)]; rfl⟩
  | succ i ih =>
    intro hi
    obtain ⟨h1, h2⟩ := ih (by omega)
    have e : B.mrun c (n + 2) (i + 1 + 1) = B.mstep c (n + 2) (B.mrun c (n + 2) (i + 1)) (i + 1) := rfl
    have ho : B.isOp (c (i + 1)) = true := by
      rw [h.ci (i + 1) (by omega) hi]
      have := h.k3
      simp [B.isOp]; omega
    rw [e]
    by_cases h60 : (B.mrun c (n + 2) (i + 1)).h = 60
    · rw [ms_full ho h60]
      have hi60 : 60 ≤ i := by rw [h1] at h60; split at h60 <;> omega
      refine ⟨by show (B.mrun c (n + 2) (i + 1)).h = _; rw [h60, if_neg (by omega)], fun x => ?_⟩
      show (B.mrun c (n + 2) (i + 1)).cl x = _
      rw [h2]
      by_cases hx : 1 ≤ x ∧ x ≤ i ∧ x ≤ 60
      · rw [if_pos hx, if_pos (by omega)]
      · rw [if_neg hx, if_neg (by omega)]
    · rw [ms_push ho h60]
      have hi60 : i < 60 := by
        rw [h1] at h60
        split at h60 <;> omega
      refine ⟨by show (B.mrun c (n + 2) (i + 1)).h + 1 = _; rw [h1, if_pos (by omega), if_pos (by omega)], fun x => ?_⟩
      show B.set (B.mrun c (n + 2) (i + 1)).cl (i + 1) (n + 2) x = _
      by_cases hx : x = i + 1
      · subst hx
        rw [B.set_at, if_pos (by omega)]
      · rw [B.set_ne _ _ hx, h2]
        by_cases hx2 : 1 ≤ x ∧ x ≤ i ∧ x ≤ 60
        · rw [if_pos hx2, if_pos (by omega)]
        · rw [if_neg hx2, if_neg (by omega)]
theorem Dp.clo {n kd : Nat} {c : Nat → Nat} (h : Dp n kd c) (x : Nat) : B.clo c (n + 2) x = if 1 ≤ x ∧ x ≤ n ∧ x ≤ 60 then n + 2 else 0 := by
  unfold B.clo
  rw [h.pend]
  have e : B.mrun c (n + 2) (n + 2) = B.mstep c (n + 2) (B.mrun c (n + 2) (n + 1)) (n + 1) := rfl
  rw [e, ms_other (by rw [h.ce]; rfl) (by rw [h.ce]; decide)]
  exact (h.run n (Nat.le_refl _)).2 x

/-! Levels. -/
def dpN (kd e : Nat) : Nat := if (decide ((e + 1) % 2 = 1)) = decide (kd = 1) then e + 1 else e + 2
def dpL (kd base : Nat) : Nat → Nat
  | 0 => base
  | d + 1 => dpN kd (dpL kd base d)
theorem stgF_not (c it : Nat → Nat) (h : ∀ x, c x ≠ 15 ∧ c x ≠ 14) : ∀ f n, B.stgF c it f n ≠ 15 ∧ B.stgF c it f n ≠ 14 := by
  intro f
  induction f with
  | zero => intro n; exact ⟨by show (0 : Nat) ≠ 15; decide, by show (0 : Nat) ≠ 14; decide⟩
  | succ f ih =>
    intro n
    unfold B.stgF
    split
    · exact h _
    · exact ih _
theorem Dp.not {n kd : Nat} {c : Nat → Nat} (h : Dp n kd c) (x : Nat) : c x ≠ 15 ∧ c x ≠ 14 := by
  have := h.k3
  rcases Nat.eq_zero_or_pos x with h0 | h0
  · subst h0; rw [h.c0]; decide
  · rcases Nat.lt_or_ge n x with h1 | h1
    · rcases Nat.lt_or_ge (n + 1) x with h2 | h2
      · rw [h.co x h2]; decide
      · obtain rfl : x = n + 1 := by omega
        rw [h.ce]; decide
    · rw [h.ci x h0 h1]; omega
theorem Dp.inn {n kd : Nat} {c : Nat → Nat} (h : Dp n kd c) (cl : Nat → Nat) (e i : Nat) (h1 : 1 ≤ i) (h2 : i ≤ n) : B.inn c cl e i = dpN kd e := by
  unfold B.inn dpN
  have ho : B.odd c cl i = decide (kd = 1) := by
    unfold B.odd
    rw [h.ci i h1 h2]
    by_cases h11 : 9 + kd = 11
    · rw [if_pos h11]
      have := stgF_not c (B.itm cl (i + 1)) h.not (B.cnt cl (i + 1) (cl i)) 0
      unfold B.stg
      rw [decide_eq_false (by omega), decide_eq_false (by omega)]
    · rw [if_neg h11]
      by_cases hk1 : kd = 1
      · rw [decide_eq_true hk1, decide_eq_true (by omega)]
      · rw [decide_eq_false hk1, decide_eq_false (by omega)]
  rw [ho]
theorem res_L (side m : Nat) (l : Nat → Nat) (j : Nat) (h : l j = 17) : B.res side m l j = 17 := by
  have h1 : B.v1 side l j = 17 := by
    cases j with
    | zero => show (if l 0 = 13 then side else l 0) = 17; rw [h, if_neg (by decide)]
    | succ j => show (if l (j + 1) = 13 then _ else l (j + 1)) = 17; rw [h, if_neg (by decide)]
  have h2 : B.v2 side (B.v1 side l) j = 17 := by unfold B.v2; rw [h1, if_neg (by omega)]
  have h3 : B.v3 (B.v2 side (B.v1 side l)) j = 17 := by unfold B.v3; rw [h2, if_neg (by omega)]
  have h4 : B.v4 m (B.v3 (B.v2 side (B.v1 side l))) j = 17 := by
    cases j with
    | zero => exact h3
    | succ j => unfold B.v4; rw [h3, if_neg (by omega)]
  have h5 : B.v5 m (B.v4 m (B.v3 (B.v2 side (B.v1 side l)))) j = 17 := by
    unfold B.v5 B.ov
    rw [h4, if_neg (by decide)]
  have h6 : B.v6 (B.v5 m (B.v4 m (B.v3 (B.v2 side (B.v1 side l))))) j = 17 := by unfold B.v6; rw [h5, if_neg (by omega)]
  have h7 : B.wk side m l j = 17 := by unfold B.wk B.v7; rw [h6, if_neg (by omega)]
  unfold B.res B.v8 B.ov
  rw [h7, if_neg (by decide)]
theorem Dp.lev {n kd : Nat} {c : Nat → Nat} (h : Dp n kd c) (D : Nat) (hD : D = if n ≤ 60 then n else 60) : ∀ q d f e, d + q = D → q + 1 ≤ f → 1 ≤ d → ∀ L : Nat → Nat, L d = e → (∀ j, d ≤ j → L (j + 1) = dpN kd (L j)) → B.lev c (B.clo c (n + 2)) f (d + 1) (n + 2) e (n + 1) = B.lvl (L D) 17 := by
  have hDn : D ≤ n := by rw [hD]; split <;> omega
  have hup : B.Up (B.clo c (n + 2)) := (B.clo_ok c (n + 2)).up
  intro q
  induction q with
  | zero =>
    intro d f e hd hf h1 L hL _
    obtain rfl : d = D := by omega
    obtain ⟨f, rfl⟩ : ∃ k, f = k + 1 := ⟨f - 1, by omega⟩
    have hz : ∀ x, d < x → B.clo c (n + 2) x = 0 := fun x hx => by rw [h.clo, if_neg (by rw [hD] at hx; split at hx <;> omega)]
    have hit : ∀ j, B.itm (B.clo c (n + 2)) (d + 1) j = d + 1 + j := by
      intro j
      induction j with
      | zero => rfl
      | succ j ih =>
        show B.nx _ (B.itm _ (d + 1) j) = _
        rw [ih]
        unfold B.nx
        rw [hz _ (by omega), if_pos rfl]
        omega
    have := lev_item c (B.clo c (n + 2)) hup f (d + 1) (n + 2) e (n - d)
    rw [hit (n - d), show d + 1 + (n - d) = n + 1 by omega] at this
    rw [this, hL, res_L _ _ _ _ (by show c (B.itm _ (d + 1) (n - d)) = 17; rw [hit, show d + 1 + (n - d) = n + 1 by omega, h.ce])]
  | succ q ih =>
    intro d f e hd hf h1 L hL hN
    obtain ⟨f, rfl⟩ : ∃ k, f = k + 1 := ⟨f - 1, by omega⟩
    have hc1 : B.clo c (n + 2) (d + 1) = n + 2 := by rw [h.clo, if_pos (by rw [hD] at hd; split at hd <;> omega)]
    have hi0 : B.itm (B.clo c (n + 2)) (d + 1) 0 = d + 1 := rfl
    have hi1 : B.itm (B.clo c (n + 2)) (d + 1) 1 = n + 2 := by
      show B.nx _ (d + 1) = _
      unfold B.nx
      rw [hc1, if_neg (by omega)]
    have := lev_in c (B.clo c (n + 2)) hup f (d + 1) (n + 2) e 0 (n + 1) (by rw [hi0]; omega) (by rw [hi1]; omega)
    rw [hi0, hc1, h.inn _ e (d + 1) (by omega) (by omega)] at this
    rw [this]
    exact ih (d + 1) f (dpN kd e) (by omega) (by omega) (by omega) L (by rw [hN d (Nat.le_refl _), hL]) (fun j hj => hN j (by omega))
theorem Dp.lev0 {n kd base : Nat} {c : Nat → Nat} (h : Dp n kd c) : B.lev c (B.clo c (n + 2)) (n + 2) 0 (n + 2) base (n + 1) = B.lvl (dpL kd base (if n ≤ 60 then n else 60)) 17 := by
  have hup : B.Up (B.clo c (n + 2)) := (B.clo_ok c (n + 2)).up
  have hc0 : B.clo c (n + 2) 0 = 0 := by rw [h.clo, if_neg (by omega)]
  have hi1 : B.itm (B.clo c (n + 2)) 0 1 = 1 := by show B.nx _ 0 = 1; unfold B.nx; rw [hc0, if_pos rfl]
  rcases Nat.eq_zero_or_pos n with h0 | h0
  · subst h0
    have := lev_item c (B.clo c (0 + 2)) hup 1 0 (0 + 2) base 1
    rw [hi1] at this
    rw [this, res_L _ _ _ _ (by show c (B.itm _ 0 1) = 17; rw [hi1]; exact h.ce)]
    rfl
  · have hc1 : B.clo c (n + 2) 1 = n + 2 := by rw [h.clo, if_pos (by omega)]
    have hi2 : B.itm (B.clo c (n + 2)) 0 2 = n + 2 := by
      show B.nx _ (B.itm _ 0 1) = _
      rw [hi1]
      unfold B.nx
      rw [hc1, if_neg (by omega)]
    have := lev_in c (B.clo c (n + 2)) hup (n + 1) 0 (n + 2) base 1 (n + 1) (by rw [hi1]; omega) (by rw [hi2]; omega)
    rw [hi1, hc1, h.inn _ base 1 (by omega) h0] at this
    rw [this]
    refine h.lev (if n ≤ 60 then n else 60) rfl ((if n ≤ 60 then n else 60) - 1) 1 (n + 1) (dpN kd base) ?_ ?_ (by omega) (dpL kd base) rfl (fun j _ => rfl)
    · split <;> omega
    · split <;> omega
theorem dp_last (n kd base : Nat) (hk : kd < 3) : B.lvAll base (B.kcl (dpT n kd)) (n + 2) (n + 1) = B.lvl (dpL kd base (if n ≤ 60 then n else 60)) 17 := by
  have h := dp_ok n kd hk
  obtain ⟨c, hc⟩ : ∃ c, B.kcl (dpT n kd) = c := ⟨_, rfl⟩
  rw [hc] at h ⊢
  have hne : ∀ j, c j ≠ 1 := fun j => by
    rcases Nat.eq_zero_or_pos j with h0 | h0
    · subst h0; rw [h.c0]; decide
    · rcases Nat.lt_or_ge n j with h1 | h1
      · rcases Nat.lt_or_ge (n + 1) j with h2 | h2
        · rw [h.co j h2]; decide
        · obtain rfl : j = n + 1 := by omega
          rw [h.ce]; decide
      · rw [h.ci j h0 h1]; omega
  have hb : ∀ j, B.pbeg c j = 0 := by
    intro j
    induction j with
    | zero => rfl
    | succ j ih => unfold B.pbeg; rw [if_neg (hne j)]; exact ih
  have hf : B.pfin c (n + 2) 0 = n + 2 := pendF_none c (n + 2) _ 0 (Nat.zero_le _) (Nat.le_refl _) (fun j _ _ => hne j)
  unfold B.lvAll
  rw [hb, hf]
  have e : (fun j => c (0 + j)) = c := by funext j; rw [Nat.zero_add]
  rw [e, Nat.sub_zero, Nat.sub_zero]
  unfold B.plev
  rw [h.ce, if_neg (by decide), if_neg (by simp [B.isIso])]
  exact h.lev0
end Go.Proofs.Ytclblidfamabdaa
