/- slices.Reverse of a part of a row of numbers. -/
import Derived.Test.YtclblidfamabdaaG7
import Derived.BigRegion
import Derived.Lib.MinMax
import Derived.Test.YtclblidfamabdaaG1
import Derived.Lib.RuneBytes
import Derived.Test.YtclblidfamabdaaG8
import Derived.Laws.BytesArg
import Derived.Laws.IdiomStrings
set_option linter.unusedVariables false
set_option linter.unusedSimpArgs false
namespace Go.Proofs.Ytclblidfamabdaa
open Go.RowKit Go.Shelf Go.Lib Go.BigFrame
attribute [local go_sem] Oper.semAt_some

/-- A row of which the part [o, o + n) is turned round, but for what lies k or more from its ends. -/
def rvI (c : Nat → Int) (o n k x : Nat) : Int := if o ≤ x ∧ x < o + n ∧ (x < o + k ∨ o + n ≤ x + k) then c (2 * o + n - 1 - x) else c x
theorem rvI_zero (c : Nat → Int) (o n x : Nat) : rvI c o n 0 x = c x := by unfold rvI; rw [if_neg (by omega)]
theorem rvI_step (c : Nat → Int) (o n k j : Nat) (h : n = j + 1 + k) (hk : k < j) (x : Nat) : upd (upd (rvI c o n k) (o + k) (rvI c o n k (o + j))) (o + j) (rvI c o n k (o + k)) x = rvI c o n (k + 1) x := by
  have e1 : rvI c o n k (o + j) = c (o + j) := by unfold rvI; rw [if_neg (by omega)]
  have e2 : rvI c o n k (o + k) = c (o + k) := by unfold rvI; rw [if_neg (by omega)]
  rw [e1, e2]
  unfold upd
  by_cases h1 : x = o + j
  · rw [if_pos h1]; unfold rvI; rw [if_pos (by omega)]; congr 1; omega
  · rw [if_neg h1]
    by_cases h2 : x = o + k
    · show (if x = o + k then _ else _) = _
      rw [if_pos h2]; unfold rvI; rw [if_pos (by omega)]; congr 1; omega
    · show (if x = o + k then _ else _) = _
      rw [if_neg h2]
      unfold rvI
      by_cases h3 : o ≤ x ∧ x < o + n ∧ (x < o + k ∨ o + n ≤ x + k)
      · rw [if_pos h3, if_pos (by omega)]
      · rw [if_neg h3, if_neg (by omega)]
theorem rvI_end (c : Nat → Int) (o n k : Nat) (h : n ≤ 2 * k + 1) (hk : 2 * k ≤ n) (x : Nat) : rvI c o n k x = rvI c o n n x := by
  unfold rvI
  by_cases h1 : o ≤ x ∧ x < o + n ∧ (x < o + k ∨ o + n ≤ x + k)
  · rw [if_pos h1, if_pos (by omega)]
  · rw [if_neg h1]
    by_cases h2 : o ≤ x ∧ x < o + n ∧ (x < o + n ∨ o + n ≤ x + n)
    · rw [if_pos h2]; congr 1; omega
    · rw [if_neg h2]

set_option maxRecDepth 1000000 in
set_option maxHeartbeats 4000000 in
theorem reverse_any (A : Option Addr) (g o n cap N : Nat) (c : Nat → Int) (w : World) (hN : N ≤ 4194304) (hn : o + n ≤ N) (hcap : n ≤ cap) (hA : 0 < n → A = some ⟨g, o, none⟩) (hR : Rw w g c N) :
    Calls Try.prog 46 #[.slice A n cap] w fun e w' => (∃ v, e = .returned v) ∧ w'.heap.size = w.heap.size ∧ Fr (fun k => k ≠ g) w w' ∧ Rw w' g (rvI c o n n) N := by
  have HA := Lib.hid hA
  have H0 := Lib.hid (hR.congr (fun x _ => (rvI_zero c o n x).symm))
  clear hA hR
  go_enter Try.func46, Try.ntmps46
  go_wp2
  go_loopw [2, 3] (fun iv jv wx => ∃ (k : Nat) (J : Int), iv = .int .i64 (k : Int) ∧ jv = .int .i64 J ∧ J = (n : Int) - 1 - (k : Int) ∧ 2 * k ≤ n ∧ wx.heap.size = w.heap.size ∧ Fr (fun k => k ≠ g) w wx ∧ Rw wx g (rvI c o n k) N) (fun iv _ _ => n - (RowKit.intOf iv).toNat)
  case atStart => exact ⟨0, (n : Int) - 1, rfl, rfl, by omega, by omega, rfl, Fr.refl _ _, H0.out⟩
  case round =>
    obtain ⟨k, J, rfl, rfl, hJ, hk, hz, hF, hRw⟩ := hrel
    by_cases hlt : (k : Int) < J
    · obtain ⟨j, rfl⟩ : ∃ j : Nat, J = (j : Int) := ⟨J.toNat, by omega⟩
      have hkj : k < j := by omega
      have hnj : n = j + 1 + k := by omega
      have hAe := HA.out (by omega)
      subst hAe
      obtain ⟨c1, f1⟩ := hRw.at (show o + k < N by omega)
      obtain ⟨c2, f2⟩ := hRw.at (show o + j < N by omega)
      have HR := Lib.hid (And.intro hz (And.intro hF hRw))
      have hjn : j < n := by omega
      have hkn : k < n := by omega
      have hne : ¬ (o + k = o + j) := by omega
      have hne2 : ¬ (o + j = o + k) := by omega
      obtain ⟨x1, hx1⟩ : ∃ x, rvI c o n k (o + k) = x := ⟨_, rfl⟩
      obtain ⟨x2, hx2⟩ : ∃ x, rvI c o n k (o + j) = x := ⟨_, rfl⟩
      rw [hx1] at c1
      rw [hx2] at c2
      have HS : Hid (((wr.setCell ⟨g, o + k, none⟩ (.int .i64 x2)).setCell ⟨g, o + j, none⟩ (.int .i64 x1)).heap.size = w.heap.size ∧ Fr (fun k => k ≠ g) w ((wr.setCell ⟨g, o + k, none⟩ (.int .i64 x2)).setCell ⟨g, o + j, none⟩ (.int .i64 x1)) ∧ Rw ((wr.setCell ⟨g, o + k, none⟩ (.int .i64 x2)).setCell ⟨g, o + j, none⟩ (.int .i64 x1)) g (rvI c o n (k + 1)) N) := Lib.hid (by
        obtain ⟨q1, q2, q3⟩ := HR.out
        refine ⟨by rw [size_setCell, size_setCell]; exact q1, (q2.setCell _ _ (fun _ h => h rfl)).setCell _ _ (fun _ h => h rfl), ((q3.set _ _).set _ _).congr (fun x _ => ?_)⟩
        rw [← rvI_step c o n k j hnj hkj x, hx1, hx2])
      have HS2 : Hid (((wr.setCell ⟨g, o + j, none⟩ (.int .i64 x1)).setCell ⟨g, o + k, none⟩ (.int .i64 x2)).heap.size = w.heap.size ∧ Fr (fun k => k ≠ g) w ((wr.setCell ⟨g, o + j, none⟩ (.int .i64 x1)).setCell ⟨g, o + k, none⟩ (.int .i64 x2)) ∧ Rw ((wr.setCell ⟨g, o + j, none⟩ (.int .i64 x1)).setCell ⟨g, o + k, none⟩ (.int .i64 x2)) g (rvI c o n (k + 1)) N) := Lib.hid (by
        obtain ⟨q1, q2, q3⟩ := HR.out
        refine ⟨by rw [size_setCell, size_setCell]; exact q1, (q2.setCell _ _ (fun _ h => h rfl)).setCell _ _ (fun _ h => h rfl), ((q3.set _ _).set _ _).congr (fun x _ => ?_)⟩
        rw [← rvI_step c o n k j hnj hkj x, hx1, hx2]
        unfold upd
        by_cases h1 : x = o + k
        · rw [if_pos h1, if_neg (by omega), if_pos h1]
        · rw [if_neg h1, if_neg h1])
      have HX := Lib.hid (And.intro hx1 hx2)
      have HJ := Lib.hid (And.intro hnj hJ)
      clear hz hF hRw hx1 hx2 hnj hJ hlt
      go_wp2
      go_region
      all_goals
        go_wp2
        go_roundw
        case rel =>
          first
            | exact ⟨k + 1, (j : Int) - 1, by go_num, rfl, by have := HJ.out; omega, by have := HJ.out; omega, HS.out.1, HS.out.2.1.drew, HS.out.2.2.fr (Fr.refl (fun _ => True) _).drew trivial⟩
            | exact ⟨k + 1, (j : Int) - 1, by go_num, rfl, by have := HJ.out; omega, by have := HJ.out; omega, HS2.out.1, HS2.out.2.1.drew, HS2.out.2.2.fr (Fr.refl (fun _ => True) _).drew trivial⟩
        case measure => simp [RowKit.intOf]; omega
    · have HR := Lib.hid (And.intro hz (And.intro hF (hRw.congr (fun x _ => rvI_end c o n k (by omega) hk x))))
      clear hz hF hRw
      go_wp2
      go_end0
      exact ⟨⟨_, rfl⟩, HR.out⟩
end Go.Proofs.Ytclblidfamabdaa

/- bidi.Order. -/
set_option linter.unusedVariables false
set_option linter.unusedSimpArgs false
namespace Go.Proofs.Ytclblidfamabdaa
open Go.RowKit Go.Shelf Go.Lib Go.BigFrame
attribute [local go_sem] Oper.semAt_some

/-- At a level or above. -/
def geP (lv : Nat → Nat) (e : Nat) (x : Nat) : Bool := decide (e ≤ lv x)
theorem B.trn_out (lv : Nat → Nat) (e m : Nat) (o : Nat → Nat) (k : Nat) (h : geP lv e (o k) = false) : B.trn lv e m o k = o k := by
  unfold B.trn; rw [if_neg (by simpa [geP] using h)]
theorem B.trn_in (lv : Nat → Nat) (e m : Nat) (o : Nat → Nat) (i j k : Nat) (hi : i = 0 ∨ geP lv e (o (i - 1)) = false) (hm : i ≤ m) (h1 : i ≤ k) (h2 : k < j) (hj : j ≤ m) (hs : ∀ q, i ≤ q → q < j → geP lv e (o q) = true) (he : j < m → geP lv e (o j) = false) : B.trn lv e m o k = o (i + j - 1 - k) := by
  unfold B.trn
  rw [if_pos (by simpa [geP] using hs k h1 h2)]
  have e1 : B.lft (fun x => decide (e ≤ lv x)) o k = i := by
    have := B.lft_is (geP lv e) o i hi (k - i) (fun q h3 h4 => hs q h3 (by omega))
    rwa [show i + (k - i) = k by omega] at this
  have e2 : B.rgt (fun x => decide (e ≤ lv x)) o m k = j := B.rgt_is (geP lv e) o m k j (by omega) hj (fun q h3 h4 => hs q (by omega) h4) he
  rw [e1, e2]
theorem B.trn_lt (lv : Nat → Nat) (e m : Nat) (o : Nat → Nat) (h : ∀ k, k < m → o k < m) (k : Nat) (hk : k < m) : B.trn lv e m o k < m := by
  unfold B.trn
  by_cases hp : e ≤ lv (o k)
  · rw [if_pos hp]
    apply h
    have h1 := B.lft_le (fun x => decide (e ≤ lv x)) o k
    obtain ⟨h2, h3, h4, h5⟩ := B.rgt_spec (fun x => decide (e ≤ lv x)) o m k (by omega)
    have h6 : k < B.rgt (fun x => decide (e ≤ lv x)) o m k := by
      rcases Nat.lt_or_ge k (B.rgt (fun x => decide (e ≤ lv x)) o m k) with h6 | h6
      · exact h6
      · exfalso
        have e1 : B.rgt (fun x => decide (e ≤ lv x)) o m k = k := by omega
        rw [e1] at h5
        have := h5 hk
        simp at this; omega
    omega
  · rw [if_neg hp]; exact h k hk
/-- A turn, done up to a place. -/
def trI (lv : Nat → Nat) (e m : Nat) (o : Nat → Nat) (i k : Nat) : Int := if k < i then (B.trn lv e m o k : Int) else (o k : Int)
theorem trI_skip (lv : Nat → Nat) (e m : Nat) (o : Nat → Nat) (i : Nat) (h : geP lv e (o i) = false) (k : Nat) : trI lv e m o i k = trI lv e m o (i + 1) k := by
  unfold trI
  by_cases h1 : k < i
  · rw [if_pos h1, if_pos (by omega)]
  · rw [if_neg h1]
    by_cases h2 : k < i + 1
    · obtain rfl : k = i := by omega
      rw [if_pos h2, B.trn_out _ _ _ _ _ h]
    · rw [if_neg h2]
theorem trI_turn (lv : Nat → Nat) (e m : Nat) (o : Nat → Nat) (i j : Nat) (hi : i = 0 ∨ geP lv e (o (i - 1)) = false) (hj : j ≤ m) (hij : i < j) (hs : ∀ q, i ≤ q → q < j → geP lv e (o q) = true) (he : j < m → geP lv e (o j) = false) (k : Nat) : rvI (trI lv e m o i) i (j - i) (j - i) k = trI lv e m o j k := by
  unfold rvI
  by_cases h1 : i ≤ k ∧ k < i + (j - i) ∧ (k < i + (j - i) ∨ i + (j - i) ≤ k + (j - i))
  · rw [if_pos h1]
    unfold trI
    rw [if_neg (by omega), if_pos (by omega), B.trn_in lv e m o i j k hi (by omega) (by omega) (by omega) hj hs he]
    congr 2; omega
  · rw [if_neg h1]
    unfold trI
    by_cases h2 : k < i
    · rw [if_pos h2, if_pos (by omega)]
    · rw [if_neg h2, if_neg (by omega)]
theorem most_le (lv : Nat → Nat) : ∀ n k, k < n → lv k ≤ B.most lv n := by
  intro n
  induction n with
  | zero => intro k h; omega
  | succ n ih =>
    intro k h
    show lv k ≤ max (B.most lv n) (lv n)
    rcases Nat.lt_or_ge k n with h1 | h1
    · have := ih k h1; omega
    · obtain rfl : k = n := by omega
      omega
theorem most_bound (lv : Nat → Nat) (M : Nat) : ∀ n, (∀ k, k < n → lv k ≤ M) → B.most lv n ≤ M := by
  intro n
  induction n with
  | zero => intro _; exact Nat.zero_le _
  | succ n ih => intro h; have := ih (fun k hk => h k (by omega)); have := h n (by omega); show max (B.most lv n) (lv n) ≤ M; omega

set_option maxRecDepth 1000000 in
set_option maxHeartbeats 8000000 in
theorem order_any (m : Nat) (lv : Nat → Nat) (v : Value) (w : World) (hm : m ≤ 4194304) (hlv : ∀ k, k < m → lv k ≤ 67108864) (hR : Rd w v (fun j => (lv j : Int)) m) :
    Calls Try.prog 23 #[v] w fun e w' => e = .returned (.slice (some ⟨w.heap.size, 0, none⟩) m m) ∧ Below w.heap.size w w' ∧ Rw w' w.heap.size (fun j => (B.ord lv m j : Int)) m := by
  obtain ⟨i0, hi, hz0, hz1, hz2⟩ := info_parts Try.infoIn
  have hmk : ∀ W : World, (Instr.makeSlice 29 (.int .i64 (m : Int)) (.int .i64 (m : Int))).run Try.prog W = .ok (.slice (some ⟨W.heap.size, 0, none⟩) m m) (W.alloc (.cells (madeCells (Value.int .i64 0).cells m) 3)) := fun W => by
    have h := run_make (P := Try.prog) W 29 3 i0 _ Try.underlying29 hi hz0 .i64 .i64 (m : Int) (m : Int) (by omega) (by omega) (by rw [hz2]; omega) (by omega)
    rw [h, hz1, Int.toNat_natCast, Nat.mul_one]
  have HMR := Lib.hid (make_rw w m)
  obtain ⟨MC, hMC⟩ : ∃ M, madeCells (Value.int .i64 0).cells m = M := ⟨_, rfl⟩
  rw [hMC] at hmk HMR
  clear hMC
  obtain ⟨A, cap, rfl, hcap, hc⟩ := hR
  have HC := Lib.hid hc
  have HLV := Lib.hid hlv
  clear hc hlv
  obtain ⟨gl, hgl⟩ : ∃ g, w.heap.size = g := ⟨_, rfl⟩
  rw [hgl] at HMR
  have KF : Hid (∀ W, Fr (fun k => k ≠ gl) (w.alloc (.cells MC 3)) W → Below w.heap.size w W ∧ (0 < m → ∃ g o, A = some ⟨g, o, none⟩ ∧ ∀ j, j < m → W.cell? ⟨g, o + j, none⟩ = some (.int .i64 (lv j : Int)))) := Lib.hid (fun W h => by
    have hb : Below w.heap.size w W := ((Below.refl _ _).alloc (Nat.le_refl _) _).trans (h.toBelow (fun k hk => by show k ≠ gl; omega) (by simp))
    refine ⟨hb, fun h0 => ?_⟩
    obtain ⟨g, o, e, h1⟩ := HC.out h0
    exact ⟨g, o, e, fun j hj => (World.cell?_of_block (hb.block _ (World.block_lt_of_cell? _ _ (h1 j hj)))).trans (h1 j hj)⟩)
  clear HC
  have hmost := most_bound lv 67108864 m HLV.out
  obtain ⟨X, hX⟩ : ∃ X, B.ord lv m = X := ⟨_, rfl⟩
  have HX : Hid (B.ordF lv m (B.most lv m) id = X) := Lib.hid hX
  rw [hX]
  clear hX
  go_enter Try.func23, Try.ntmps23
  go_wp2
  go_loopw [4, 15] (fun mv iv wx => ∃ i : Nat, iv = .int .i64 (i : Int) ∧ i ≤ m ∧ mv = .int .i64 (B.most lv i : Int) ∧ Fr (fun k => k ≠ gl) (w.alloc (.cells MC 3)) wx ∧ Rw wx gl (fun k => if k < i then (k : Int) else 0) m) (fun _ iv _ => m - (RowKit.intOf iv).toNat)
  case atStart => exact ⟨0, rfl, Nat.zero_le _, rfl, Fr.refl _ _, HMR.out.congr (fun j _ => by rw [if_neg (Nat.not_lt_zero _)])⟩
  case round =>
    obtain ⟨i, rfl, him, rfl, hF, hRw⟩ := hrel
    by_cases hlt : i < m
    · obtain ⟨g, o, rfl, hcc⟩ := (KF.out _ hF).2 (by omega)
      have c0 := hcc i hlt
      obtain ⟨c1, f1⟩ := hRw.at hlt
      obtain ⟨u1, c1'⟩ : ∃ u, wr.cell? ⟨gl, i, none⟩ = some u := ⟨_, c1⟩
      obtain ⟨M, hM⟩ : ∃ M, B.most lv i = M := ⟨_, rfl⟩
      obtain ⟨x, hx⟩ : ∃ x, lv i = x := ⟨_, rfl⟩
      obtain ⟨M2, hM2⟩ : ∃ M, B.most lv (i + 1) = M := ⟨_, rfl⟩
      have e1 : max (M : Int) (x : Int) = (M2 : Int) := by
        rw [← hM, ← hx, ← hM2]
        show _ = ((max (B.most lv i) (lv i) : Nat) : Int)
        omega
      have c2 : ∀ u, (wr.setCell ⟨gl, i, none⟩ u).cell? ⟨gl, i, none⟩ = some u ∨ True := fun _ => .inr trivial
      rw [hx] at c0
      rw [hM]
      have HF := Lib.hid (And.intro hF hRw)
      have HM2 := Lib.hid hM2
      clear hF hRw hcc hM hx hM2 c1 c2
      go_wp2
      go_roundw
      case rel =>
        refine ⟨i + 1, by go_num, hlt, by rw [HM2.out], HF.out.1.setCell _ _ (fun _ h => h rfl), (HF.out.2.set i (i : Int)).congr (fun j _ => ?_)⟩
        unfold upd
        by_cases h1 : j = i
        · subst h1; rw [if_pos rfl, if_pos (by omega)]
        · rw [if_neg h1]
          show (if j < i then (j : Int) else 0) = _
          by_cases h2 : j < i
          · rw [if_pos h2, if_pos (by omega)]
          · rw [if_neg h2, if_neg (by omega)]
      case measure => simp [RowKit.intOf]; omega
    · obtain rfl : m = i := by omega
      have HF := Lib.hid (And.intro hF (hRw.congr (d := fun k => (k : Int)) (fun k hk => if_pos hk)))
      clear hF hRw
      obtain ⟨M, hM⟩ : ∃ M, B.most lv m = M := ⟨_, rfl⟩
      rw [hM] at hmost HX ⊢
      clear hM
      go_wp2
      go_loopw [7] (fun nv wx => ∃ (e : Nat) (o : Nat → Nat), nv = .int .i64 (e : Int) ∧ e ≤ M ∧ (∀ k, k < m → o k < m) ∧ B.ordF lv m e o = X ∧ Fr (fun k => k ≠ gl) (w.alloc (.cells MC 3)) wx ∧ Rw wx gl (fun k => (o k : Int)) m) (fun nv _ => (RowKit.intOf nv).toNat)
      case atStart => exact ⟨M, id, rfl, Nat.le_refl _, fun k h => h, HX.out, HF.out⟩
      case round =>
        clear HF HX
        obtain ⟨e, o, rfl, heM, hol, hX, hF, hRw⟩ := hrel
        by_cases he : 1 ≤ e
        · obtain ⟨E, rfl⟩ : ∃ E, e = E + 1 := ⟨e - 1, by omega⟩
          have HX : Hid (B.ordF lv m E (B.trn lv (E + 1) m o) = X) := Lib.hid hX
          have HOL := Lib.hid hol
          have H0 := Lib.hid (And.intro hF (hRw.congr (d := trI lv (E + 1) m o 0) (fun k _ => by unfold trI; rw [if_neg (Nat.not_lt_zero _)])))
          clear hX hol hF hRw he
          obtain ⟨e, hee⟩ : ∃ e, E + 1 = e := ⟨_, rfl⟩
          have HEi := Lib.hid (show (e : Int) = (E : Int) + 1 by omega)
          have he1 : 1 ≤ e := by omega
          rw [hee] at HX H0 heM ⊢
          have HE := Lib.hid hee
          clear hee
          go_wp2
          rw [show decide (1 ≤ (e : Int)) = true from decide_eq_true (by omega)]
          go_loopw [8] (fun iv wx => ∃ i : Nat, iv = .int .i64 (i : Int) ∧ i ≤ m ∧ (i = 0 ∨ geP lv e (o (i - 1)) = false ∨ i = m ∨ geP lv e (o i) = false) ∧ Fr (fun k => k ≠ gl) (w.alloc (.cells MC 3)) wx ∧ Rw wx gl (trI lv e m o i) m) (fun iv _ => m - (RowKit.intOf iv).toNat)
          case atStart => exact ⟨0, rfl, Nat.zero_le _, .inl rfl, H0.out⟩
          case round =>
            clear H0
            obtain ⟨i, rfl, him, hinv, hF, hRw⟩ := hrel
            by_cases hlt : i < m
            · have HF := Lib.hid (And.intro hF hRw)
              have HINV := Lib.hid hinv
              obtain ⟨g, oo, rfl, hcc⟩ := (KF.out _ hF).2 (by omega)
              have HCC := Lib.hid hcc
              have HRD : Hid (∀ k, i ≤ k → k < m → wr.cell? ⟨gl, k, none⟩ = some (.int .i64 (o k : Int))) := Lib.hid (fun k h1 h2 => by
                have := (hRw.at h2).1
                rwa [show trI lv e m o i k = (o k : Int) by unfold trI; rw [if_neg (by omega)]] at this)
              clear hF hRw hinv hcc
              go_wp2
              go_loop [9] (fun jv => ∃ j : Nat, jv = .int .i64 (j : Int) ∧ i ≤ j ∧ j ≤ m ∧ ∀ q, i ≤ q → q < j → geP lv e (o q) = true) (fun jv => m - (RowKit.intOf jv).toNat)
              case atStart => exact ⟨i, rfl, Nat.le_refl _, him, fun q h1 h2 => by omega⟩
              case round =>
                obtain ⟨j, rfl, hij, hjm, hall⟩ := hrel
                by_cases hgo : j < m ∧ e ≤ lv (o j)
                · obtain ⟨hjl, hge⟩ := hgo
                  have o0 := HRD.out j hij hjl
                  have hol := HOL.out j hjl
                  obtain ⟨y, hy⟩ : ∃ y, o j = y := ⟨_, rfl⟩
                  have HY := Lib.hid hy
                  rw [hy] at o0 hol hge
                  have c0 := HCC.out y hol
                  obtain ⟨x, hx⟩ : ∃ x, lv y = x := ⟨_, rfl⟩
                  rw [hx] at c0 hge
                  have HP := Lib.hid (show geP lv e (o j) = true by rw [hy]; unfold geP; rw [hx]; exact decide_eq_true hge)
                  have HALL := Lib.hid hall
                  clear hy hx hall
                  go_wp2
                  go_round
                  case rel =>
                    refine ⟨j + 1, by go_num, by omega, by omega, fun q h1 h2 => ?_⟩
                    rcases Nat.lt_or_ge q j with h | h
                    · exact HALL.out q h1 h
                    · obtain rfl : q = j := by omega
                      exact HP.out
                  case measure => simp [RowKit.intOf]; omega
                · have hP : j < m → geP lv e (o j) = false := fun h => decide_eq_false (fun h2 => hgo ⟨h, h2⟩)
                  have hi2 : i < j → (i = 0 ∨ geP lv e (o (i - 1)) = false) := fun h => by
                    have := hall i (Nat.le_refl _) h
                    rcases HINV.out with h1 | h1 | h1 | h1
                    · exact .inl h1
                    · exact .inr h1
                    · omega
                    · rw [h1] at this; cases this
                  obtain ⟨q, hq⟩ : ∃ q, (if i < j then j - 1 else i) = q := ⟨_, rfl⟩
                  have e1 : max (i : Int) ((j : Int) - 1) = (q : Int) := by rw [← hq]; split <;> omega
                  have hqm : q < m := by rw [← hq]; split <;> omega
                  have hiq : i ≤ q := by rw [← hq]; split <;> omega
                  have HQ : Hid (True ∧ (q + 1 = 0 ∨ geP lv e (o (q + 1 - 1)) = false ∨ q + 1 = m ∨ geP lv e (o (q + 1)) = false) ∧ ∀ k, rvI (trI lv e m o i) i (j - i) (j - i) k = trI lv e m o (q + 1) k) := Lib.hid (by
                    refine ⟨trivial, ?_⟩
                    by_cases hij2 : i < j
                    · rw [if_pos hij2] at hq
                      obtain rfl : j = q + 1 := by omega
                      refine ⟨?_, fun k => trI_turn lv e m o i (q + 1) (hi2 hij2) hjm hij2 hall hP k⟩
                      rcases Nat.lt_or_ge (q + 1) m with h | h
                      · exact .inr (.inr (.inr (hP h)))
                      · exact .inr (.inr (.inl (by omega)))
                    · rw [if_neg hij2] at hq
                      obtain rfl : i = q := hq
                      obtain rfl : j = i := by omega
                      refine ⟨.inr (.inl (hP hlt)), fun k => ?_⟩
                      rw [← trI_skip lv e m o j (hP hlt) k]
                      unfold rvI; rw [if_neg (by omega)])
                  have RV := Lib.hid (reverse_any (some ⟨gl, i, none⟩) gl i (j - i) (m - i) m (trI lv e m o i) wr hm (by omega) (by omega) (fun _ => rfl) HF.out.2)
                  rcases Nat.lt_or_ge j m with hjl | hjl
                  · have o0 := HRD.out j hij hjl
                    have hol := HOL.out j hjl
                    have hge : ¬ e ≤ lv (o j) := fun h => hgo ⟨hjl, h⟩
                    obtain ⟨y, hy⟩ : ∃ y, o j = y := ⟨_, rfl⟩
                    rw [hy] at o0 hol hge
                    have c0 := HCC.out y hol
                    obtain ⟨x, hx⟩ : ∃ x, lv y = x := ⟨_, rfl⟩
                    rw [hx] at c0 hge
                    clear hy hx hall hP hi2 hgo hq
                    go_wp2_with (go_at_call 46; (with_reducible refine RV.out.mono ?_); rintro en w5 ⟨⟨v5, rfl⟩, hz5, hf5, hr5⟩; have H5 := Lib.hid (And.intro hz5 (And.intro hf5 hr5)); clear hz5 hf5 hr5)
                    go_roundw
                    case rel => exact ⟨q + 1, by first | go_num | rw [e1], by omega, HQ.out.2.1, HF.out.1.trans H5.out.2.1, H5.out.2.2.congr (fun k _ => HQ.out.2.2 k)⟩
                    case measure => simp [RowKit.intOf]; omega
                  · obtain rfl : m = j := by omega
                    clear hall hP hi2 hgo hq
                    go_wp2_with (go_at_call 46; (with_reducible refine RV.out.mono ?_); rintro en w5 ⟨⟨v5, rfl⟩, hz5, hf5, hr5⟩; have H5 := Lib.hid (And.intro hz5 (And.intro hf5 hr5)); clear hz5 hf5 hr5)
                    go_roundw
                    case rel => exact ⟨q + 1, by first | go_num | rw [e1], by omega, HQ.out.2.1, HF.out.1.trans H5.out.2.1, H5.out.2.2.congr (fun k _ => HQ.out.2.2 k)⟩
                    case measure => simp [RowKit.intOf]; omega
            · obtain rfl : m = i := by omega
              have HF := Lib.hid (And.intro hF (hRw.congr (d := fun k => (B.trn lv e m o k : Int)) (fun k hk => by unfold trI; rw [if_pos hk])))
              clear hF hRw hinv
              go_wp2
              go_roundw
              case rel => exact ⟨E, B.trn lv e m o, by rw [HEi.out]; go_num, by have := HEi.out; omega, fun k hk => B.trn_lt lv e m o HOL.out k hk, HX.out, HF.out.1, HF.out.2⟩
              case measure => simp [RowKit.intOf]; omega
        · obtain rfl : e = 0 := by omega
          have HF := Lib.hid (And.intro hF (hRw.congr (d := fun k => (X k : Int)) (fun k _ => by rw [← hX]; rfl)))
          clear hF hRw hX hol
          go_wp2
          go_ret
          subst hgl; exact ⟨rfl, (KF.out _ HF.out.1).1, HF.out.2⟩
end Go.Proofs.Ytclblidfamabdaa

/- An order has each place once; neighbours of one level stay neighbours: plain. -/
set_option linter.unusedVariables false
namespace Go.Proofs.Ytclblidfamabdaa
open Go.RowKit Go.Shelf Go.Lib

/-- Where a turn takes a place from. -/
def sgm (lv : Nat → Nat) (e m : Nat) (o : Nat → Nat) (k : Nat) : Nat := if geP lv e (o k) = true then B.lft (geP lv e) o k + B.rgt (geP lv e) o m k - 1 - k else k
theorem trn_sgm (lv : Nat → Nat) (e m : Nat) (o : Nat → Nat) (k : Nat) : B.trn lv e m o k = o (sgm lv e m o k) := by
  unfold B.trn sgm
  by_cases h : e ≤ lv (o k)
  · rw [if_pos h, if_pos (by simpa [geP] using h)]; rfl
  · rw [if_neg h, if_neg (by simpa [geP] using h)]
theorem lft_spec (p : Nat → Bool) (l : Nat → Nat) : ∀ k, (∀ q, B.lft p l k ≤ q → q < k → p (l q) = true) ∧ (B.lft p l k = 0 ∨ p (l (B.lft p l k - 1)) = false) := by
  intro k
  induction k with
  | zero => exact ⟨fun q _ h => absurd h (Nat.not_lt_zero _), .inl rfl⟩
  | succ k ih =>
    unfold B.lft
    by_cases h : p (l k) = true
    · rw [if_pos h]
      refine ⟨fun q h1 h2 => ?_, ih.2⟩
      rcases Nat.lt_or_ge q k with h3 | h3
      · exact ih.1 q h1 h3
      · obtain rfl : q = k := by omega
        exact h
    · rw [if_neg h]
      exact ⟨fun q h1 h2 => by omega, .inr (by simpa using h)⟩
theorem sgm_spec (lv : Nat → Nat) (e m : Nat) (o : Nat → Nat) (k : Nat) (hk : k < m) :
    (geP lv e (o k) = false ∧ sgm lv e m o k = k) ∨ ∃ i j, i ≤ k ∧ k < j ∧ j ≤ m ∧ (∀ q, i ≤ q → q < j → geP lv e (o q) = true) ∧ (j < m → geP lv e (o j) = false) ∧ ∀ q, i ≤ q → q < j → sgm lv e m o q = i + j - 1 - q := by
  cases hp : geP lv e (o k) with
  | false => exact .inl ⟨rfl, by unfold sgm; rw [hp]; rfl⟩
  | true =>
    refine .inr ?_
    have l1 := B.lft_le (geP lv e) o k
    obtain ⟨l2, l3⟩ := lft_spec (geP lv e) o k
    obtain ⟨r1, r2, r3, r4⟩ := B.rgt_spec (geP lv e) o m k (by omega)
    obtain ⟨i, hi⟩ : ∃ i, B.lft (geP lv e) o k = i := ⟨_, rfl⟩
    obtain ⟨j, hj⟩ : ∃ j, B.rgt (geP lv e) o m k = j := ⟨_, rfl⟩
    rw [hi] at l1 l2 l3
    rw [hj] at r1 r2 r3 r4
    have hkj : k < j := by
      rcases Nat.lt_or_ge k j with h | h
      · exact h
      · obtain rfl : j = k := by omega
        rw [r4 hk] at hp; cases hp
    have hall : ∀ q, i ≤ q → q < j → geP lv e (o q) = true := fun q h1 h2 => by
      rcases Nat.lt_or_ge q k with h | h
      · exact l2 q h1 h
      · exact r3 q h h2
    refine ⟨i, j, l1, hkj, r2, hall, r4, fun q h1 h2 => ?_⟩
    unfold sgm
    rw [if_pos (hall q h1 h2)]
    have e1 : B.lft (geP lv e) o q = i := by
      have := B.lft_is (geP lv e) o i l3 (q - i) (fun z h3 h4 => hall z h3 (by omega))
      rwa [show i + (q - i) = q by omega] at this
    have e2 : B.rgt (geP lv e) o m q = j := B.rgt_is (geP lv e) o m q j (by omega) r2 (fun z h3 h4 => hall z (by omega) h4) r4
    rw [e1, e2]
theorem sgm_lt (lv : Nat → Nat) (e m : Nat) (o : Nat → Nat) (k : Nat) (hk : k < m) : sgm lv e m o k < m := by
  rcases sgm_spec lv e m o k hk with ⟨_, h⟩ | ⟨i, j, h1, h2, h3, h4, h5, h6⟩
  · omega
  · have := h6 k h1 h2; omega
theorem sgm_sgm (lv : Nat → Nat) (e m : Nat) (o : Nat → Nat) (k : Nat) (hk : k < m) : sgm lv e m o (sgm lv e m o k) = k := by
  rcases sgm_spec lv e m o k hk with ⟨_, h⟩ | ⟨i, j, h1, h2, h3, h4, h5, h6⟩
  · rw [h, h]
  · rw [h6 k h1 h2, h6 _ (by omega) (by omega)]; omega
/-- Neighbours that are turned stay so, the other way round. -/
theorem sgm_next (lv : Nat → Nat) (e m : Nat) (o : Nat → Nat) (k : Nat) (hk : k + 1 < m) (h0 : geP lv e (o k) = true) (h1 : geP lv e (o (k + 1)) = true) : sgm lv e m o k = sgm lv e m o (k + 1) + 1 := by
  rcases sgm_spec lv e m o k (by omega) with ⟨h, _⟩ | ⟨i, j, g1, g2, g3, g4, g5, g6⟩
  · rw [h] at h0; cases h0
  · have : k + 1 < j := by
      rcases Nat.lt_or_ge (k + 1) j with h | h
      · exact h
      · obtain rfl : j = k + 1 := by omega
        rw [g5 hk] at h1; cases h1
    rw [g6 k g1 g2, g6 (k + 1) (by omega) this]; omega
def InjOn (m : Nat) (o : Nat → Nat) : Prop := (∀ k, k < m → o k < m) ∧ ∀ a b, a < m → b < m → o a = o b → a = b
theorem trn_inj (lv : Nat → Nat) (e m : Nat) (o : Nat → Nat) (h : InjOn m o) : InjOn m (B.trn lv e m o) := by
  refine ⟨fun k hk => B.trn_lt lv e m o h.1 k hk, fun a b ha hb hab => ?_⟩
  rw [trn_sgm, trn_sgm] at hab
  have := h.2 _ _ (sgm_lt lv e m o a ha) (sgm_lt lv e m o b hb) hab
  rw [← sgm_sgm lv e m o a ha, ← sgm_sgm lv e m o b hb, this]
/-- Neighbours of one level stand beside one another, the way that the turns so far tell. -/
def Ad (lv : Nat → Nat) (m e : Nat) (o : Nat → Nat) : Prop := ∀ x, x + 1 < m → lv x = lv (x + 1) → ∃ a b, a < m ∧ b < m ∧ o a = x ∧ o b = x + 1 ∧ (if (lv x + 1 - e) % 2 = 1 then a = b + 1 else b = a + 1)
theorem ad_start (lv : Nat → Nat) (m e : Nat) (he : ∀ x, x < m → lv x < e) : Ad lv m e id := fun x hx _ => by
  have := he x (by omega)
  exact ⟨x, x + 1, by omega, hx, rfl, rfl, by rw [if_neg (by omega)]⟩
theorem ad_step (lv : Nat → Nat) (m e : Nat) (o : Nat → Nat) (h : Ad lv m (e + 1) o) : Ad lv m e (B.trn lv e m o) := fun x hx hl => by
  obtain ⟨a, b, ha, hb, h1, h2, h3⟩ := h x hx hl
  refine ⟨sgm lv e m o a, sgm lv e m o b, sgm_lt lv e m o a ha, sgm_lt lv e m o b hb, by rw [trn_sgm, sgm_sgm lv e m o a ha, h1], by rw [trn_sgm, sgm_sgm lv e m o b hb, h2], ?_⟩
  by_cases hle : e ≤ lv x
  · have pa : geP lv e (o a) = true := by rw [h1]; exact decide_eq_true hle
    have pb : geP lv e (o b) = true := by rw [h2]; exact decide_eq_true (by omega)
    by_cases hc : (lv x + 1 - (e + 1)) % 2 = 1
    · rw [if_pos hc] at h3
      rw [if_neg (by omega)]
      subst h3
      have := sgm_next lv e m o b (by omega) pb pa
      omega
    · rw [if_neg hc] at h3
      rw [if_pos (by omega)]
      subst h3
      exact sgm_next lv e m o a (by omega) pa pb
  · have pa : sgm lv e m o a = a := by unfold sgm; rw [if_neg (by rw [h1]; simpa [geP] using hle)]
    have pb : sgm lv e m o b = b := by unfold sgm; rw [if_neg (by rw [h2]; simp [geP]; omega)]
    rw [pa, pb]
    have e1 : lv x + 1 - (e + 1) = 0 ∧ lv x + 1 - e = 0 := by omega
    rw [e1.1] at h3
    rw [e1.2]
    exact h3
theorem ordF_ok (lv : Nat → Nat) (m : Nat) : ∀ e o, InjOn m o → Ad lv m (e + 1) o → InjOn m (B.ordF lv m e o) ∧ Ad lv m 1 (B.ordF lv m e o) := by
  intro e
  induction e with
  | zero => intro o h1 h2; exact ⟨h1, h2⟩
  | succ e ih => intro o h1 h2; exact ih _ (trn_inj lv (e + 1) m o h1) (ad_step lv m (e + 1) o h2)
theorem ord_ok (lv : Nat → Nat) (m : Nat) : InjOn m (B.ord lv m) ∧ Ad lv m 1 (B.ord lv m) :=
  ordF_ok lv m (B.most lv m) id ⟨fun k h => h, fun a b _ _ h => h⟩ (ad_start lv m _ (fun x hx => by have := most_le lv m x hx; omega))
/-- An argument that is a slice of numbers. -/
def ArgI (W : World) (v : Value) (l : List Int) : Prop := (v = .slice none 0 0 ∧ l = []) ∨ ∃ a cap, v = .slice (some a) l.length cap ∧ l.length ≤ cap ∧ ∀ (j : Nat) (x : Int), l[j]? = some x → W.cell? (a.add j) = some (.int .i64 x)
theorem ArgI.rd {W : World} {v : Value} {l : List Int} (h : ArgI W v l) : Rd W v (fun j => l.getD j 0) l.length := by
  rcases h with ⟨rfl, rfl⟩ | ⟨a, cap, rfl, hle, hc⟩
  · exact ⟨none, 0, rfl, Nat.le_refl _, fun h => absurd h (by simp)⟩
  · refine ⟨_, cap, rfl, hle, fun h => ?_⟩
    obtain ⟨b, off, spot⟩ := a
    obtain ⟨x, hx⟩ : ∃ s, l[0]? = some s := ⟨_, List.getElem?_eq_getElem h⟩
    have hspot : spot = none := by simpa [Addr.add] using World.cell?_spot (hc 0 x hx)
    subst hspot
    refine ⟨b, off, rfl, fun j hj => ?_⟩
    have := hc j _ (List.getElem?_eq_getElem hj)
    rw [Go.WideShapes.add_plain] at this
    rw [this]
    show _ = some (Value.int .i64 (l.getD j 0))
    rw [List.getD_eq_getElem?_getD, List.getElem?_eq_getElem hj]
    rfl
end Go.Proofs.Ytclblidfamabdaa

/- Runes of bytes, bytes of runes: plain. -/
set_option linter.unusedVariables false
namespace Go.Proofs.Ytclblidfamabdaa
open Go.RowKit Go.Shelf Go.Lib Go.BigFrame

def runesL (l : List UInt8) : List Int := (U.toks l).map fun t => (t.1 : Int)
theorem runesFrom_eq (s : ByteArray) : ∀ (b i : Nat) (acc : Array Value), s.size - i ≤ b → Conv.runesFrom s b i acc = acc ++ ((U.toks (s.data.toList.drop i)).map fun t => Value.int .i32 (t.1 : Int)).toArray := by
  intro b
  induction b with
  | zero =>
    intro i acc h
    rw [toks_end (by omega)]
    simp [Conv.runesFrom]
  | succ b ih =>
    intro i acc h
    unfold Conv.runesFrom
    by_cases hi : i < s.size
    · have hd := decode_facts hi
      rw [if_pos hi, toks_at hi, List.map_cons]
      have h2 := ih (i + (Utf8.decode s i).2) (acc.push (.int .i32 (Int.ofNat (Utf8.decode s i).1))) (by omega)
      refine h2.trans ?_
      simp
    · rw [if_neg hi, toks_end hi]
      simp
attribute [local go_sem] Oper.semAt_some

/-- The bytes of runes. -/
def textB (l : List Int) : List UInt8 := l.flatMap Lib.encodeRune
attribute [local go_sem] Oper.semAt_some

def runesC (l : List Int) : List Value := l.flatMap Lib.runeCells
theorem runesC_snoc (l : List Int) (x : Int) : runesC (l ++ [x]) = runesC l ++ Lib.runeCells x := by simp [runesC]
theorem runesC_eq (l : List Int) : runesC l = Lib.byteCells (textB l) := by
  induction l with
  | nil => rfl
  | cons x l ih =>
    rw [runesC, List.flatMap_cons, textB, List.flatMap_cons]
    have e : Lib.byteCells (Lib.encodeRune x ++ List.flatMap Lib.encodeRune l) = Lib.byteCells (Lib.encodeRune x) ++ Lib.byteCells (List.flatMap Lib.encodeRune l) := by simp [Lib.byteCells]
    rw [e, Lib.byteCells_encodeRune]
    congr 1
theorem runesC_len (l : List Int) : (runesC l).length ≤ 4 * l.length := by
  induction l with
  | nil => simp [runesC]
  | cons x l ih =>
    have := (Lib.runeCells_le x).2
    rw [runesC] at ih
    rw [runesC, List.flatMap_cons, List.length_append, List.length_cons]
    omega
theorem runesC_one (l : List Int) : ∀ u ∈ runesC l, u.oneCell' = true := by
  intro u hu
  rw [runesC_eq] at hu
  simp [Lib.byteCells] at hu
  obtain ⟨_, _, rfl⟩ := hu
  rfl
theorem runesL_len (l : List UInt8) : (runesL l).length = (U.toks l).length := by simp [runesL]
theorem runesL_range (l : List UInt8) : ∀ x ∈ runesL l, -2147483648 ≤ x ∧ x ≤ 2147483647 := fun x hx => by
  obtain ⟨t, ht, rfl⟩ := List.mem_map.1 hx
  have := (U.toks_fact l t ht).2.2.1
  omega
end Go.Proofs.Ytclblidfamabdaa

/- Visual, plain: what is seen; builders under what turns elsewhere. -/
set_option linter.unusedVariables false
set_option linter.unusedSimpArgs false
namespace Go.Proofs.Ytclblidfamabdaa
open Go.RowKit Go.Shelf Go.Lib Go.BigFrame

/-- Has a text no rune of class B? -/
def B.line (l : List U.Tk) : Bool := l.all fun t => decide (B.cls (t.1 : Int) ≠ 1)
/-- The j-th rune of the i-th cluster, as it is seen. -/
def B.vis1 (l : List U.Tk) (lv : Nat → Nat) (i j : Nat) : Int := if j = 0 ∧ lv i % 2 = 1 then B.mir (C.rune l (C.sgF l i) : Int) else (C.rune l (C.sgF l i + j) : Int)
def B.visN (l : List U.Tk) (lv : Nat → Nat) (i k : Nat) : List Int := (List.range k).map (B.vis1 l lv i)
def B.visI (l : List U.Tk) (lv : Nat → Nat) (i : Nat) : List Int := B.visN l lv i (C.sgF l (i + 1) - C.sgF l i)
/-- The first k clusters, from the left. -/
def B.visR (l : List U.Tk) (lv : Nat → Nat) (n k : Nat) : List Int := (List.range k).flatMap fun q => B.visI l lv (B.ord lv n q)
def visV (s : ByteArray) (base : Nat) : ByteArray × Nat :=
  let l := U.toks s.data.toList
  let n := (C.clus l).length
  if B.line l then (⟨(textB (B.visR l (B.lvAll base (B.kcl l) n) n n)).toArray⟩, 0) else (⟨#[]⟩, 24)
theorem B.visN_succ (l : List U.Tk) (lv : Nat → Nat) (i k : Nat) : B.visN l lv i (k + 1) = B.visN l lv i k ++ [B.vis1 l lv i k] := by simp [B.visN, List.range_succ]
theorem B.visR_succ (l : List U.Tk) (lv : Nat → Nat) (n k : Nat) : B.visR l lv n (k + 1) = B.visR l lv n k ++ B.visI l lv (B.ord lv n k) := by simp [B.visR, List.range_succ]
theorem textB_app (a b : List Int) : textB (a ++ b) = textB a ++ textB b := by simp [textB]
theorem textB_one (r : Int) : textB [r] = Lib.encodeRune r := by simp [textB]
theorem textB_len (l : List Int) : (textB l).length ≤ 4 * l.length := by
  have h := runesC_len l
  rw [runesC_eq] at h
  simpa [Lib.byteCells] using h
theorem B.visN_len (l : List U.Tk) (lv : Nat → Nat) (i k : Nat) : (B.visN l lv i k).length = k := by simp [B.visN]
theorem B.visR_len (l : List U.Tk) (lv : Nat → Nat) (n M : Nat) (hM : ∀ i, C.sgF l (i + 1) - C.sgF l i ≤ M) : ∀ k, (B.visR l lv n k).length ≤ k * M := by
  intro k
  induction k with
  | zero => simp [B.visR]
  | succ k ih =>
    rw [B.visR_succ, List.length_append]
    have : (B.visI l lv (B.ord lv n k)).length ≤ M := by unfold B.visI; rw [B.visN_len]; exact hM _
    rw [Nat.succ_mul]; omega
theorem sgF_le (l : List U.Tk) (k : Nat) : C.sgF l k ≤ l.length := by
  unfold C.sgF C.start
  cases h : (C.clus l)[k]? with
  | none => simp
  | some c =>
    simp only [Option.map_some, Option.getD_some]
    obtain ⟨h1, h2, h3, h4, h5, h6, h7, _⟩ := C.clus_at l k c h
    omega
/-- Levels are not great. -/
theorem B.lvl_le (e c : Nat) : B.lvl e c ≤ e + 2 := by unfold B.lvl; repeat' split
                                                       all_goals omega
theorem B.inn_le (c cl : Nat → Nat) (e i : Nat) : B.inn c cl e i ≤ e + 2 := by unfold B.inn; split <;> omega
theorem B.lev_le (c cl : Nat → Nat) : ∀ f frm tz e k, B.lev c cl f frm tz e k ≤ e + 2 * f := by
  intro f
  induction f with
  | zero => intro frm tz e k; exact Nat.le_refl _
  | succ f ih =>
    intro frm tz e k
    unfold B.lev
    split
    · have := B.lvl_le e (B.res (B.sid e) (B.cnt cl frm tz) (fun n => c (B.itm cl frm n)) (B.loc cl frm k)); omega
    · have := ih (B.itm cl frm (B.loc cl frm k) + 1) (cl (B.itm cl frm (B.loc cl frm k))) (B.inn c cl e (B.itm cl frm (B.loc cl frm k))) k
      have := B.inn_le c cl e (B.itm cl frm (B.loc cl frm k))
      omega
theorem B.pendF_le (c : Nat → Nat) (n : Nat) : ∀ f i, i ≤ n → B.pendF c n f i ≤ n := by
  intro f
  induction f with
  | zero => intro i h; exact h
  | succ f ih =>
    intro i h
    unfold B.pendF
    split
    · split
      · omega
      · exact ih (i + 1) (by omega)
    · exact h
theorem B.pbeg_le (c : Nat → Nat) : ∀ k, B.pbeg c k ≤ k := by
  intro k
  induction k with
  | zero => exact Nat.le_refl _
  | succ k ih => unfold B.pbeg; split <;> omega
theorem B.lvAll_le (base : Nat) (c : Nat → Nat) (n k : Nat) (hk : k < n) : B.lvAll base c n k ≤ base + 2 * n := by
  have h1 := B.pbeg_le c k
  have h2 := B.pendF_le c n (n - B.pbeg c k) (B.pbeg c k) (by omega)
  unfold B.lvAll B.plev
  split
  · omega
  · split
    · omega
    · have := B.lev_le (fun j => c (B.pbeg c k + j)) (B.clo (fun j => c (B.pbeg c k + j)) (B.pfin c n (B.pbeg c k) - B.pbeg c k)) (B.pfin c n (B.pbeg c k) - B.pbeg c k) 0 (B.pfin c n (B.pbeg c k) - B.pbeg c k) base (k - B.pbeg c k)
      unfold B.pfin at this ⊢
      omega
theorem mirF_mem : ∀ (l : List Int) (r : Int), B.mirF l r = r ∨ B.mirF l r ∈ l
  | [], r => .inl rfl
  | [a], r => .inl rfl
  | a :: b :: l, r => by
    unfold B.mirF
    split
    · exact .inr (by simp)
    · split
      · exact .inr (by simp)
      · exact (mirF_mem l r).imp id (fun h => by simp [h])
theorem mir_range (r : Int) (h0 : -2147483648 ≤ r) (h1 : r ≤ 2147483647) : -2147483648 ≤ B.mir r ∧ B.mir r ≤ 2147483647 := by
  rcases mirF_mem B.prs r with h | h
  · unfold B.mir; rw [h]; exact ⟨h0, h1⟩
  · have : ∀ x ∈ B.prs, -2147483648 ≤ x ∧ x ≤ 2147483647 := by decide
    exact this _ h
theorem rune_range (s : ByteArray) (k : Nat) : C.rune (U.toks s.data.toList) k ≤ 1114111 := by
  unfold C.rune
  cases h : (U.toks s.data.toList)[k]? with
  | none => simp
  | some t => simp only [Option.getD_some]; exact (U.toks_fact _ t (List.mem_of_getElem? h)).2.2.1
theorem vis1_range (s : ByteArray) (lv : Nat → Nat) (i j : Nat) : -2147483648 ≤ B.vis1 (U.toks s.data.toList) lv i j ∧ B.vis1 (U.toks s.data.toList) lv i j ≤ 2147483647 := by
  unfold B.vis1
  have h1 := rune_range s (C.sgF (U.toks s.data.toList) i)
  have h2 := rune_range s (C.sgF (U.toks s.data.toList) i + j)
  split
  · exact mir_range _ (by omega) (by omega)
  · omega

/-- One step of a range over a text. -/
theorem tok_step (s : ByteArray) (l : List U.Tk) (k : Nat) (hk : k ≤ l.length) (hH : U.toks (s.data.toList.drop (C.pl l k)) = l.drop k) (hp : C.pl l k < s.size) :
    ∃ c wd, Utf8.decode s (C.pl l k) = (c, wd) ∧ k < l.length ∧ l[k]? = some (c, wd) ∧ C.pl l (k + 1) = C.pl l k + wd ∧ U.toks (s.data.toList.drop (C.pl l (k + 1))) = l.drop (k + 1) ∧ 0 < wd ∧ C.pl l k + wd ≤ s.size := by
  have hd := decode_facts hp
  have hts := toks_at hp
  obtain ⟨c, wd, hdec⟩ : ∃ c wd, Utf8.decode s (C.pl l k) = (c, wd) := ⟨_, _, rfl⟩
  rw [hdec] at hd hts
  simp only at hd hts
  have hlt : k < l.length := by
    have := congrArg List.length (hH.symm.trans hts)
    rw [List.length_drop, List.length_cons] at this
    omega
  have hdk : l.drop k = (c, wd) :: U.toks (s.data.toList.drop (C.pl l k + wd)) := hH.symm.trans hts
  have hlk : l[k]? = some (c, wd) := by
    rw [List.drop_eq_getElem_cons hlt] at hdk
    rw [List.getElem?_eq_getElem hlt, (List.cons.inj hdk).1]
  have hpl : C.pl l (k + 1) = C.pl l k + wd := by rw [C.pl_succ l k hlt]; simp [C.lenAt, hlk]
  refine ⟨c, wd, hdec, hlt, hlk, hpl, ?_, by omega, by omega⟩
  rw [List.drop_eq_getElem_cons hlt] at hdk
  rw [hpl, (List.cons.inj hdk).2]

/-- A builder under what turns no old block. -/
theorem Bld.below {B b : Nat} {l : List UInt8} {w w' : World} (h : Bld B b l w) (hb : Below w.heap.size w w') : Bld B b l w' := by
  have key : ∀ p, Lib.BuilderAtF 79 5 B b p (Lib.byteCells l) w → Lib.BuilderAtF 79 5 B b p (Lib.byteCells l) w' := by
    rintro p ⟨h1, v, h2, h3, h4⟩
    refine ⟨h1, v, (hb.block b (Array.getElem?_eq_some_iff.1 h2).1).trans h2, ⟨h3.1, ?_⟩, h4⟩
    rcases h3.2 with hn | ⟨g, cap, cur, fz, hv, hbg, hg, rest⟩
    · exact .inl hn
    · exact .inr ⟨g, cap, cur, fz, hv, hbg, (hb.block g (Array.getElem?_eq_some_iff.1 hg).1).trans hg, rest⟩
  exact h.elim (fun x => .inl (key _ x)) (fun x => .inr (key _ x))
theorem oth_below {e : TypeId} {b : Option Nat} {w w' : World} (hb : Below w.heap.size w w') : Lib.OthersKept e b w w' := fun k o h _ _ => (hb.block k (Array.getElem?_eq_some_iff.1 h).1).trans h
/-- A new builder. -/
theorem Bld.new (w : World) (B : Nat) (hB : B ≤ w.heap.size) : Bld B w.heap.size [] (w.alloc (.cells #[.pointer none, .slice none 0 0] 79)) :=
  .inl ⟨hB, .slice none 0 0, World.alloc_heap_new w _, World.ownsRowF_nil _ _ _ _, by simp [Value.ownBlock]⟩
theorem oth_cell {e t : TypeId} {b : Nat} {w w' : World} (h : Lib.OthersKept e (some b) w w') {k : Nat} {c : Array Value} {fr : Nat × Nat} (hk : w.heap[k]? = some (.cells c t fr)) (ht : t ≠ e) (hb : k ≠ b) : w'.heap[k]? = some (.cells c t fr) :=
  h k _ hk (fun x => hb (Option.some.inj x)) (fun c2 f2 e2 => ht (by cases e2; rfl))
theorem rw_oth {b g n : Nat} {c : Nat → Int} {w w' : World} (h : Rw w g c n) (ho : Lib.OthersKept 5 (some b) w w') (hb : g ≠ b) : Rw w' g c n := by
  obtain ⟨cur, h1, h2, h3⟩ := h
  exact ⟨cur, oth_cell ho h1 (by decide) hb, h2, h3⟩
/-- '[]rune(s)', and where it lies. -/
theorem runes_conv_at (s : ByteArray) (w : World) (hs : s.size ≤ 4194304) : ∃ cap W' arr, (convert 9 44 (.string s)).run Try.prog w = .ok (.slice (some ⟨w.heap.size, 0, none⟩) (runesL s.data.toList).length cap) W' ∧
    Below w.heap.size w W' ∧ W'.heap.size = w.heap.size + 1 ∧ W'.heap[w.heap.size]? = some (.cells arr 21 (0, 0)) ∧ (∀ (j : Nat) (x : Int), (runesL s.data.toList)[j]? = some x → arr[j]? = some (.int .i32 x)) := by
  have he := runesFrom_eq s s.size 0 #[] (by omega)
  rw [List.drop_zero] at he
  have hsz : (Conv.runesFrom s s.size 0 #[]).size = (runesL s.data.toList).length := by rw [he]; simp [runesL]
  have hr := Go.run_runes_of_string (P := Try.prog) w 9 44 21 s Try.underlying9 Try.underlying44 Try.underlying21 (by rw [hsz, runesL_len]; have := toks_len (s := s); omega)
  rw [hsz] at hr
  refine ⟨_, _, _, hr, ((Below.refl _ _).drew).alloc (Nat.le_refl _) _, by simp, World.alloc_heap_new w.drew _, fun j x hx => ?_⟩
  have hj : j < (runesL s.data.toList).length := (List.getElem?_eq_some_iff.1 hx).1
  rw [Array.getElem?_append_left (by rw [hsz]; exact hj), he]
  simp [runesL] at hx ⊢
  exact hx
theorem ord_lt (lv : Nat → Nat) (m k : Nat) (hk : k < m) : B.ord lv m k < m := by
  have : ∀ e (o : Nat → Nat), (∀ k, k < m → o k < m) → ∀ k, k < m → B.ordF lv m e o k < m := by
    intro e
    induction e with
    | zero => intro o h k hk; exact h k hk
    | succ e ih => intro o h k hk; exact ih _ (fun k hk => B.trn_lt lv (e + 1) m o h k hk) k hk
  exact this _ id (fun k h => h) k hk
/-- The runes of a cluster's part. -/
theorem part_runes (s : ByteArray) (i : Nat) (hi : i < (C.clus (U.toks s.data.toList)).length) : runesL (s.extract (C.atF (U.toks s.data.toList) i) (C.atF (U.toks s.data.toList) (i + 1))).data.toList = (List.range (C.sgF (U.toks s.data.toList) (i + 1) - C.sgF (U.toks s.data.toList) i)).map fun j => (C.rune (U.toks s.data.toList) (C.sgF (U.toks s.data.toList) i + j) : Int) := by
  obtain ⟨x, hx⟩ : ∃ x, (C.clus (U.toks s.data.toList))[i]? = some x := ⟨_, List.getElem?_eq_getElem hi⟩
  have hp := part_toks s i x hx
  obtain ⟨e1, e2, e3, e4, e5, e6, e7, e8, e9, e10⟩ := C.clus_steps _ (C.toks_14 _) i x hx
  rw [e1, e4] at hp
  unfold runesL
  rw [hp, e2, e3]
  apply List.ext_getElem?
  intro j
  rw [List.getElem?_map, List.getElem?_take, List.getElem?_map]
  by_cases hj : j < C.sgF (U.toks s.data.toList) (i + 1) - C.sgF (U.toks s.data.toList) i
  · rw [if_pos hj, List.getElem?_drop, List.getElem?_range hj]
    unfold C.rune
    rw [List.getElem?_eq_getElem (by omega)]
    simp only [Option.map_some]
    rw [List.getElem?_eq_getElem (by omega)]
    rfl
  · rw [if_neg hj]
    simp [hj]
end Go.Proofs.Ytclblidfamabdaa
