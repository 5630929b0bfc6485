/- bidi.Order. -/
import Derived.Test.YtclblidfamabdaaBdRv
import Derived.Lib.MinMax
set_option linter.unusedVariables false
set_option linter.unusedSimpArgs false
namespace Go.Proofs.Ytclblidfamabdaa
open Go.RowKit Go.Shelf Go.Lib Go.BigFrame
attribute [local go_sem] Oper.semAt_some

/-- At a level or above. -/
def geP (lv : Nat → Nat) (e : Nat) (x : Nat) : Bool := decide (e ≤ lv x)
theorem B.trn_out (lv : Nat → Nat) (e m : Nat) (o : Nat → Nat) (k : Nat) (h : geP lv e (o k) = false) : B.trn lv e m o k = o k := by
  unfold B.trn; rw [if_neg (by simpa [geP] using h)]
theorem B.trn_in (lv : Nat → Nat) (e m : Nat) (o : Nat → Nat) (i j k : Nat) (hi : i = 0 ∨ geP lv e (o (i - 1)) = false) (hm : i ≤ m) (h1 : i ≤ k) (h2 : k < j) (hj : j ≤ m) (hs : ∀ q, i ≤ q → q < j → geP lv e (o q) = true) (he : j < m → geP lv e (o j) = false) : B.trn lv e m o k = o (i + j - 1 - k) := by
  unfold B.trn
  rw [if_pos (by simpa [geP] using hs k h1 h2)]
  have e1 : B.lft (fun x => decide (e ≤ lv x)) o k = i := by
    have := B.lft_is (geP lv e) o i hi (k - i) (fun q h3 h4 => hs q h3 (by omega))
    rwa [show i + (k - i) = k by omega] at this
  have e2 : B.rgt (fun x => decide (e ≤ lv x)) o m k = j := B.rgt_is (geP lv e) o m k j (by omega) hj (fun q h3 h4 => hs q (by omega) h4) he
  rw [e1, e2]
theorem B.trn_lt (lv : Nat → Nat) (e m : Nat) (o : Nat → Nat) (h : ∀ k, k < m → o k < m) (k : Nat) (hk : k < m) : B.trn lv e m o k < m := by
  unfold B.trn
  by_cases hp : e ≤ lv (o k)
  · rw [if_pos hp]
    apply h
    have h1 := B.lft_le (fun x => decide (e ≤ lv x)) o k
    obtain ⟨h2, h3, h4, h5⟩ := B.rgt_spec (fun x => decide (e ≤ lv x)) o m k (by omega)
    have h6 : k < B.rgt (fun x => decide (e ≤ lv x)) o m k := by
      rcases Nat.lt_or_ge k (B.rgt (fun x => decide (e ≤ lv x)) o m k) with h6 | h6
      · exact h6
      · exfalso
        have e1 : B.rgt (fun x => decide (e ≤ lv x)) o m k = k := by omega
        rw [e1] at h5
        have := h5 hk
        simp at this; omega
    omega
  · rw [if_neg hp]; exact h k hk
/-- A turn, done up to a place. -/
def trI (lv : Nat → Nat) (e m : Nat) (o : Nat → Nat) (i k : Nat) : Int := if k < i then (B.trn lv e m o k : Int) else (o k : Int)
theorem trI_skip (lv : Nat → Nat) (e m : Nat) (o : Nat → Nat) (i : Nat) (h : geP lv e (o i) = false) (k : Nat) : trI lv e m o i k = trI lv e m o (i + 1) k := by
  unfold trI
  by_cases h1 : k < i
  · rw [if_pos h1, if_pos (by omega)]
  · rw [if_neg h1]
    by_cases h2 : k < i + 1
    · obtain rfl : k = i := by omega
      rw [if_pos h2, B.trn_out _ _ _ _ _ h]
    · rw [if_neg h2]
theorem trI_turn (lv : Nat → Nat) (e m : Nat) (o : Nat → Nat) (i j : Nat) (hi : i = 0 ∨ geP lv e (o (i - 1)) = false) (hj : j ≤ m) (hij : i < j) (hs : ∀ q, i ≤ q → q < j → geP lv e (o q) = true) (he : j < m → geP lv e (o j) = false) (k : Nat) : rvI (trI lv e m o i) i (j - i) (j - i) k = trI lv e m o j k := by
  unfold rvI
  by_cases h1 : i ≤ k ∧ k < i + (j - i) ∧ (k < i + (j - i) ∨ i + (j - i) ≤ k + (j - i))
  · rw [if_pos h1]
    unfold trI
    rw [if_neg (by omega), if_pos (by omega), B.trn_in lv e m o i j k hi (by omega) (by omega) (by omega) hj hs he]
    congr 2; omega
  · rw [if_neg h1]
    unfold trI
    by_cases h2 : k < i
    · rw [if_pos h2, if_pos (by omega)]
    · rw [if_neg h2, if_neg (by omega)]
theorem most_le (lv : Nat → Nat) : ∀ n k, k < n → lv k ≤ B.most lv n := by
  intro n
  induction n with
  | zero => intro k h; omega
  | succ n ih =>
    intro k h
    show lv k ≤ max (B.most lv n) (lv n)
    rcases Nat.lt_or_ge k n with h1 | h1
    · have := ih k h1; omega
    · obtain rfl : k = n := by omega
      omega
theorem most_bound (lv : Nat → Nat) (M : Nat) : ∀ n, (∀ k, k < n → lv k ≤ M) → B.most lv n ≤ M := by
  intro n
  induction n with
  | zero => intro _; exact Nat.zero_le _
  | succ n ih => intro h; have := ih (fun k hk => h k (by omega)); have := h n (by omega); show max (B.most lv n) (lv n) ≤ M; omega

set_option maxRecDepth 1000000 in
set_option maxHeartbeats 8000000 in
theorem order_any (m : Nat) (lv : Nat → Nat) (v : Value) (w : World) (hm : m ≤ 4194304) (hlv : ∀ k, k < m → lv k ≤ 67108864) (hR : Rd w v (fun j => (lv j : Int)) m) :
    Calls Try.prog 23 #[v] w fun e w' => e = .returned (.slice (some ⟨w.heap.size, 0, none⟩) m m) ∧ Below w.heap.size w w' ∧ Rw w' w.heap.size (fun j => (B.ord lv m j : Int)) m := by
  obtain ⟨i0, hi, hz0, hz1, hz2⟩ := info_parts Try.infoIn
  have hmk : ∀ W : World, (Instr.makeSlice 29 (.int .i64 (m : Int)) (.int .i64 (m : Int))).run Try.prog W = .ok (.slice (some ⟨W.heap.size, 0, none⟩) m m) (W.alloc (.cells (madeCells (Value.int .i64 0).cells m) 3)) := fun W => by
    have h := run_make (P := Try.prog) W 29 3 i0 _ Try.underlying29 hi hz0 .i64 .i64 (m : Int) (m : Int) (by omega) (by omega) (by rw [hz2]; omega) (by omega)
    rw [h, hz1, Int.toNat_natCast, Nat.mul_one]
  have HMR := Lib.hid (make_rw w m)
  obtain ⟨MC, hMC⟩ : ∃ M, madeCells (Value.int .i64 0).cells m = M := ⟨_, rfl⟩
  rw [hMC] at hmk HMR
  clear hMC
  obtain ⟨A, cap, rfl, hcap, hc⟩ := hR
  have HC := Lib.hid hc
  have HLV := Lib.hid hlv
  clear hc hlv
  obtain ⟨gl, hgl⟩ : ∃ g, w.heap.size = g := ⟨_, rfl⟩
  rw [hgl] at HMR
  have KF : Hid (∀ W, Fr (fun k => k ≠ gl) (w.alloc (.cells MC 3)) W → Below w.heap.size w W ∧ (0 < m → ∃ g o, A = some ⟨g, o, none⟩ ∧ ∀ j, j < m → W.cell? ⟨g, o + j, none⟩ = some (.int .i64 (lv j : Int)))) := Lib.hid (fun W h => by
    have hb : Below w.heap.size w W := ((Below.refl _ _).alloc (Nat.le_refl _) _).trans (h.toBelow (fun k hk => by show k ≠ gl; omega) (by simp))
    refine ⟨hb, fun h0 => ?_⟩
    obtain ⟨g, o, e, h1⟩ := HC.out h0
    exact ⟨g, o, e, fun j hj => (World.cell?_of_block (hb.block _ (World.block_lt_of_cell? _ _ (h1 j hj)))).trans (h1 j hj)⟩)
  clear HC
  have hmost := most_bound lv 67108864 m HLV.out
  obtain ⟨X, hX⟩ : ∃ X, B.ord lv m = X := ⟨_, rfl⟩
  have HX : Hid (B.ordF lv m (B.most lv m) id = X) := Lib.hid hX
  rw [hX]
  clear hX
  go_enter Try.func23, Try.ntmps23
  go_wp2
  go_loopw [4, 15] (fun mv iv wx => ∃ i : Nat, iv = .int .i64 (i : Int) ∧ i ≤ m ∧ mv = .int .i64 (B.most lv i : Int) ∧ Fr (fun k => k ≠ gl) (w.alloc (.cells MC 3)) wx ∧ Rw wx gl (fun k => if k < i then (k : Int) else 0) m) (fun _ iv _ => m - (intOf iv).toNat)
  case atStart => exact ⟨0, rfl, Nat.zero_le _, rfl, Fr.refl _ _, HMR.out.congr (fun j _ => by rw [if_neg (Nat.not_lt_zero _)])⟩
  case round =>
    obtain ⟨i, rfl, him, rfl, hF, hRw⟩ := hrel
    by_cases hlt : i < m
    · obtain ⟨g, o, rfl, hcc⟩ := (KF.out _ hF).2 (by omega)
      have c0 := hcc i hlt
      obtain ⟨c1, f1⟩ := hRw.at hlt
      obtain ⟨u1, c1'⟩ : ∃ u, wr.cell? ⟨gl, i, none⟩ = some u := ⟨_, c1⟩
      obtain ⟨M, hM⟩ : ∃ M, B.most lv i = M := ⟨_, rfl⟩
      obtain ⟨x, hx⟩ : ∃ x, lv i = x := ⟨_, rfl⟩
      obtain ⟨M2, hM2⟩ : ∃ M, B.most lv (i + 1) = M := ⟨_, rfl⟩
      have e1 : max (M : Int) (x : Int) = (M2 : Int) := by
        rw [← hM, ← hx, ← hM2]
        show _ = ((max (B.most lv i) (lv i) : Nat) : Int)
        omega
      have c2 : ∀ u, (wr.setCell ⟨gl, i, none⟩ u).cell? ⟨gl, i, none⟩ = some u ∨ True := fun _ => .inr trivial
      rw [hx] at c0
      rw [hM]
      have HF := Lib.hid (And.intro hF hRw)
      have HM2 := Lib.hid hM2
      clear hF hRw hcc hM hx hM2 c1 c2
      go_wp2
      go_roundw
      case rel =>
        refine ⟨i + 1, by go_num, hlt, by rw [HM2.out], HF.out.1.setCell _ _ (fun _ h => h rfl), (HF.out.2.set i (i : Int)).congr (fun j _ => ?_)⟩
        unfold upd
        by_cases h1 : j = i
        · subst h1; rw [if_pos rfl, if_pos (by omega)]
        · rw [if_neg h1]
          show (if j < i then (j : Int) else 0) = _
          by_cases h2 : j < i
          · rw [if_pos h2, if_pos (by omega)]
          · rw [if_neg h2, if_neg (by omega)]
      case measure => simp [intOf]; omega
    · obtain rfl : m = i := by omega
      have HF := Lib.hid (And.intro hF (hRw.congr (d := fun k => (k : Int)) (fun k hk => if_pos hk)))
      clear hF hRw
      obtain ⟨M, hM⟩ : ∃ M, B.most lv m = M := ⟨_, rfl⟩
      rw [hM] at hmost HX ⊢
      clear hM
      go_wp2
      go_loopw [7] (fun nv wx => ∃ (e : Nat) (o : Nat → Nat), nv = .int .i64 (e : Int) ∧ e ≤ M ∧ (∀ k, k < m → o k < m) ∧ B.ordF lv m e o = X ∧ Fr (fun k => k ≠ gl) (w.alloc (.cells MC 3)) wx ∧ Rw wx gl (fun k => (o k : Int)) m) (fun nv _ => (intOf nv).toNat)
      case atStart => exact ⟨M, id, rfl, Nat.le_refl _, fun k h => h, HX.out, HF.out⟩
      case round =>
        clear HF HX
        obtain ⟨e, o, rfl, heM, hol, hX, hF, hRw⟩ := hrel
        by_cases he : 1 ≤ e
        · obtain ⟨E, rfl⟩ : ∃ E, e = E + 1 := ⟨e - 1, by omega⟩
          have HX : Hid (B.ordF lv m E (B.trn lv (E + 1) m o) = X) := Lib.hid hX
          have HOL := Lib.hid hol
          have H0 := Lib.hid (And.intro hF (hRw.congr (d := trI lv (E + 1) m o 0) (fun k _ => by unfold trI; rw [if_neg (Nat.not_lt_zero _)])))
          clear hX hol hF hRw he
          obtain ⟨e, hee⟩ : ∃ e, E + 1 = e := ⟨_, rfl⟩
          have HEi := Lib.hid (show (e : Int) = (E : Int) + 1 by omega)
          have he1 : 1 ≤ e := by omega
          rw [hee] at HX H0 heM ⊢
          have HE := Lib.hid hee
          clear hee
          go_wp2
          rw [show decide (1 ≤ (e : Int)) = true from decide_eq_true (by omega)]
          go_loopw [8] (fun iv wx => ∃ i : Nat, iv = .int .i64 (i : Int) ∧ i ≤ m ∧ (i = 0 ∨ geP lv e (o (i - 1)) = false ∨ i = m ∨ geP lv e (o i) = false) ∧ Fr (fun k => k ≠ gl) (w.alloc (.cells MC 3)) wx ∧ Rw wx gl (trI lv e m o i) m) (fun iv _ => m - (intOf iv).toNat)
          case atStart => exact ⟨0, rfl, Nat.zero_le _, .inl rfl, H0.out⟩
          case round =>
            clear H0
            obtain ⟨i, rfl, him, hinv, hF, hRw⟩ := hrel
            by_cases hlt : i < m
            · have HF := Lib.hid (And.intro hF hRw)
              have HINV := Lib.hid hinv
              obtain ⟨g, oo, rfl, hcc⟩ := (KF.out _ hF).2 (by omega)
              have HCC := Lib.hid hcc
              have HRD : Hid (∀ k, i ≤ k → k < m → wr.cell? ⟨gl, k, none⟩ = some (.int .i64 (o k : Int))) := Lib.hid (fun k h1 h2 => by
                have := (hRw.at h2).1
                rwa [show trI lv e m o i k = (o k : Int) by unfold trI; rw [if_neg (by omega)]] at this)
              clear hF hRw hinv hcc
              go_wp2
              go_loop [9] (fun jv => ∃ j : Nat, jv = .int .i64 (j : Int) ∧ i ≤ j ∧ j ≤ m ∧ ∀ q, i ≤ q → q < j → geP lv e (o q) = true) (fun jv => m - (intOf jv).toNat)
              case atStart => exact ⟨i, rfl, Nat.le_refl _, him, fun q h1 h2 => by omega⟩
              case round =>
                obtain ⟨j, rfl, hij, hjm, hall⟩ := hrel
                by_cases hgo : j < m ∧ e ≤ lv (o j)
                · obtain ⟨hjl, hge⟩ := hgo
                  have o0 := HRD.out j hij hjl
                  have hol := HOL.out j hjl
                  obtain ⟨y, hy⟩ : ∃ y, o j = y := ⟨_, rfl⟩
                  have HY := Lib.hid hy
                  rw [hy] at o0 hol hge
                  have c0 := HCC.out y hol
                  obtain ⟨x, hx⟩ : ∃ x, lv y = x := ⟨_, rfl⟩
                  rw [hx] at c0 hge
                  have HP := Lib.hid (show geP lv e (o j) = true by rw [hy]; unfold geP; rw [hx]; exact decide_eq_true hge)
                  have HALL := Lib.hid hall
                  clear hy hx hall
                  go_wp2
                  go_round
                  case rel =>
                    refine ⟨j + 1, by go_num, by omega, by omega, fun q h1 h2 => ?_⟩
                    rcases Nat.lt_or_ge q j with h | h
                    · exact HALL.out q h1 h
                    · obtain rfl : q = j := by omega
                      exact HP.out
                  case measure => simp [intOf]; omega
                · have hP : j < m → geP lv e (o j) = false := fun h => decide_eq_false (fun h2 => hgo ⟨h, h2⟩)
                  have hi2 : i < j → (i = 0 ∨ geP lv e (o (i - 1)) = false) := fun h => by
                    have := hall i (Nat.le_refl _) h
                    rcases HINV.out with h1 | h1 | h1 | h1
                    · exact .inl h1
                    · exact .inr h1
                    · omega
                    · rw [h1] at this; cases this
                  obtain ⟨q, hq⟩ : ∃ q, (if i < j then j - 1 else i) = q := ⟨_, rfl⟩
                  have e1 : max (i : Int) ((j : Int) - 1) = (q : Int) := by rw [← hq]; split <;> omega
                  have hqm : q < m := by rw [← hq]; split <;> omega
                  have hiq : i ≤ q := by rw [← hq]; split <;> omega
                  have HQ : Hid (True ∧ (q + 1 = 0 ∨ geP lv e (o (q + 1 - 1)) = false ∨ q + 1 = m ∨ geP lv e (o (q + 1)) = false) ∧ ∀ k, rvI (trI lv e m o i) i (j - i) (j - i) k = trI lv e m o (q + 1) k) := Lib.hid (by
                    refine ⟨trivial, ?_⟩
                    by_cases hij2 : i < j
                    · rw [if_pos hij2] at hq
                      obtain rfl : j = q + 1 := by omega
                      refine ⟨?_, fun k => trI_turn lv e m o i (q + 1) (hi2 hij2) hjm hij2 hall hP k⟩
                      rcases Nat.lt_or_ge (q + 1) m with h | h
                      · exact .inr (.inr (.inr (hP h)))
                      · exact .inr (.inr (.inl (by omega)))
                    · rw [if_neg hij2] at hq
                      obtain rfl : i = q := hq
                      obtain rfl : j = i := by omega
                      refine ⟨.inr (.inl (hP hlt)), fun k => ?_⟩
                      rw [← trI_skip lv e m o j (hP hlt) k]
                      unfold rvI; rw [if_neg (by omega)])
                  have RV := Lib.hid (reverse_any (some ⟨gl, i, none⟩) gl i (j - i) (m - i) m (trI lv e m o i) wr hm (by omega) (by omega) (fun _ => rfl) HF.out.2)
                  rcases Nat.lt_or_ge j m with hjl | hjl
                  · have o0 := HRD.out j hij hjl
                    have hol := HOL.out j hjl
                    have hge : ¬ e ≤ lv (o j) := fun h => hgo ⟨hjl, h⟩
                    obtain ⟨y, hy⟩ : ∃ y, o j = y := ⟨_, rfl⟩
                    rw [hy] at o0 hol hge
                    have c0 := HCC.out y hol
                    obtain ⟨x, hx⟩ : ∃ x, lv y = x := ⟨_, rfl⟩
                    rw [hx] at c0 hge
                    clear hy hx hall hP hi2 hgo hq
                    go_wp2_with (go_at_call 46; (with_reducible refine RV.out.mono ?_); rintro en w5 ⟨⟨v5, rfl⟩, hz5, hf5, hr5⟩; have H5 := Lib.hid (And.intro hz5 (And.intro hf5 hr5)); clear hz5 hf5 hr5)
                    go_roundw
                    case rel => exact ⟨q + 1, by first | go_num | rw [e1], by omega, HQ.out.2.1, HF.out.1.trans H5.out.2.1, H5.out.2.2.congr (fun k _ => HQ.out.2.2 k)⟩
                    case measure => simp [intOf]; omega
                  · obtain rfl : m = j := by omega
                    clear hall hP hi2 hgo hq
                    go_wp2_with (go_at_call 46; (with_reducible refine RV.out.mono ?_); rintro en w5 ⟨⟨v5, rfl⟩, hz5, hf5, hr5⟩; have H5 := Lib.hid (And.intro hz5 (And.intro hf5 hr5)); clear hz5 hf5 hr5)
                    go_roundw
                    case rel => exact ⟨q + 1, by first | go_num | rw [e1], by omega, HQ.out.2.1, HF.out.1.trans H5.out.2.1, H5.out.2.2.congr (fun k _ => HQ.out.2.2 k)⟩
                    case measure => simp [intOf]; omega
            · obtain rfl : m = i := by omega
              have HF := Lib.hid (And.intro hF (hRw.congr (d := fun k => (B.trn lv e m o k : Int)) (fun k hk => by unfold trI; rw [if_pos hk])))
              clear hF hRw hinv
              go_wp2
              go_roundw
              case rel => exact ⟨E, B.trn lv e m o, by rw [HEi.out]; go_num, by have := HEi.out; omega, fun k hk => B.trn_lt lv e m o HOL.out k hk, HX.out, HF.out.1, HF.out.2⟩
              case measure => simp [intOf]; omega
        · obtain rfl : e = 0 := by omega
          have HF := Lib.hid (And.intro hF (hRw.congr (d := fun k => (X k : Int)) (fun k _ => by rw [← hX]; rfl)))
          clear hF hRw hX hol
          go_wp2
          go_ret
          subst hgl; exact ⟨rfl, (KF.out _ HF.out.1).1, HF.out.2⟩
end Go.Proofs.Ytclblidfamabdaa
