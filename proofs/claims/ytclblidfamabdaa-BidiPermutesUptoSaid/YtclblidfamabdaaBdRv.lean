/- slices.Reverse of a part of a row of numbers. -/
import Derived.Test.YtclblidfamabdaaBdO
import Derived.BigRegion
set_option linter.unusedVariables false
set_option linter.unusedSimpArgs false
namespace Go.Proofs.Ytclblidfamabdaa
open Go.RowKit Go.Shelf Go.Lib Go.BigFrame
attribute [local go_sem] Oper.semAt_some

/-- A row of which the part [o, o + n) is turned round, but for what lies k or more from its ends. -/
def rvI (c : Nat → Int) (o n k x : Nat) : Int := if o ≤ x ∧ x < o + n ∧ (x < o + k ∨ o + n ≤ x + k) then c (2 * o + n - 1 - x) else c x
theorem rvI_zero (c : Nat → Int) (o n x : Nat) : rvI c o n 0 x = c x := by unfold rvI; rw [if_neg (by omega)]
theorem rvI_step (c : Nat → Int) (o n k j : Nat) (h : n = j + 1 + k) (hk : k < j) (x : Nat) : upd (upd (rvI c o n k) (o + k) (rvI c o n k (o + j))) (o + j) (rvI c o n k (o + k)) x = rvI c o n (k + 1) x := by
  have e1 : rvI c o n k (o + j) = c (o + j) := by unfold rvI; rw [if_neg (by omega)]
  have e2 : rvI c o n k (o + k) = c (o + k) := by unfold rvI; rw [if_neg (by omega)]
  rw [e1, e2]
  unfold upd
  by_cases h1 : x = o + j
  · rw [if_pos h1]; unfold rvI; rw [if_pos (by omega)]; congr 1; omega
  · rw [if_neg h1]
    by_cases h2 : x = o + k
    · show (if x = o + k then _ else _) = _
      rw [if_pos h2]; unfold rvI; rw [if_pos (by omega)]; congr 1; omega
    · show (if x = o + k then _ else _) = _
      rw [if_neg h2]
      unfold rvI
      by_cases h3 : o ≤ x ∧ x < o + n ∧ (x < o + k ∨ o + n ≤ x + k)
      · rw [if_pos h3, if_pos (by omega)]
      · rw [if_neg h3, if_neg (by omega)]
theorem rvI_end (c : Nat → Int) (o n k : Nat) (h : n ≤ 2 * k + 1) (hk : 2 * k ≤ n) (x : Nat) : rvI c o n k x = rvI c o n n x := by
  unfold rvI
  by_cases h1 : o ≤ x ∧ x < o + n ∧ (x < o + k ∨ o + n ≤ x + k)
  · rw [if_pos h1, if_pos (by omega)]
  · rw [if_neg h1]
    by_cases h2 : o ≤ x ∧ x < o + n ∧ (x < o + n ∨ o + n ≤ x + n)
    · rw [if_pos h2]; congr 1; omega
    · rw [if_neg h2]

set_option maxRecDepth 1000000 in
set_option maxHeartbeats 4000000 in
theorem reverse_any (A : Option Addr) (g o n cap N : Nat) (c : Nat → Int) (w : World) (hN : N ≤ 4194304) (hn : o + n ≤ N) (hcap : n ≤ cap) (hA : 0 < n → A = some ⟨g, o, none⟩) (hR : Rw w g c N) :
    Calls Try.prog 46 #[.slice A n cap] w fun e w' => (∃ v, e = .returned v) ∧ w'.heap.size = w.heap.size ∧ Fr (fun k => k ≠ g) w w' ∧ Rw w' g (rvI c o n n) N := by
  have HA := Lib.hid hA
  have H0 := Lib.hid (hR.congr (fun x _ => (rvI_zero c o n x).symm))
  clear hA hR
  go_enter Try.func46, Try.ntmps46
  go_wp2
  go_loopw [2, 3] (fun iv jv wx => ∃ (k : Nat) (J : Int), iv = .int .i64 (k : Int) ∧ jv = .int .i64 J ∧ J = (n : Int) - 1 - (k : Int) ∧ 2 * k ≤ n ∧ wx.heap.size = w.heap.size ∧ Fr (fun k => k ≠ g) w wx ∧ Rw wx g (rvI c o n k) N) (fun iv _ _ => n - (intOf iv).toNat)
  case atStart => exact ⟨0, (n : Int) - 1, rfl, rfl, by omega, by omega, rfl, Fr.refl _ _, H0.out⟩
  case round =>
    obtain ⟨k, J, rfl, rfl, hJ, hk, hz, hF, hRw⟩ := hrel
    by_cases hlt : (k : Int) < J
    · obtain ⟨j, rfl⟩ : ∃ j : Nat, J = (j : Int) := ⟨J.toNat, by omega⟩
      have hkj : k < j := by omega
      have hnj : n = j + 1 + k := by omega
      have hAe := HA.out (by omega)
      subst hAe
      obtain ⟨c1, f1⟩ := hRw.at (show o + k < N by omega)
      obtain ⟨c2, f2⟩ := hRw.at (show o + j < N by omega)
      have HR := Lib.hid (And.intro hz (And.intro hF hRw))
      have hjn : j < n := by omega
      have hkn : k < n := by omega
      have hne : ¬ (o + k = o + j) := by omega
      have hne2 : ¬ (o + j = o + k) := by omega
      obtain ⟨x1, hx1⟩ : ∃ x, rvI c o n k (o + k) = x := ⟨_, rfl⟩
      obtain ⟨x2, hx2⟩ : ∃ x, rvI c o n k (o + j) = x := ⟨_, rfl⟩
      rw [hx1] at c1
      rw [hx2] at c2
      have HS : Hid (((wr.setCell ⟨g, o + k, none⟩ (.int .i64 x2)).setCell ⟨g, o + j, none⟩ (.int .i64 x1)).heap.size = w.heap.size ∧ Fr (fun k => k ≠ g) w ((wr.setCell ⟨g, o + k, none⟩ (.int .i64 x2)).setCell ⟨g, o + j, none⟩ (.int .i64 x1)) ∧ Rw ((wr.setCell ⟨g, o + k, none⟩ (.int .i64 x2)).setCell ⟨g, o + j, none⟩ (.int .i64 x1)) g (rvI c o n (k + 1)) N) := Lib.hid (by
        obtain ⟨q1, q2, q3⟩ := HR.out
        refine ⟨by rw [size_setCell, size_setCell]; exact q1, (q2.setCell _ _ (fun _ h => h rfl)).setCell _ _ (fun _ h => h rfl), ((q3.set _ _).set _ _).congr (fun x _ => ?_)⟩
        rw [← rvI_step c o n k j hnj hkj x, hx1, hx2])
      have HS2 : Hid (((wr.setCell ⟨g, o + j, none⟩ (.int .i64 x1)).setCell ⟨g, o + k, none⟩ (.int .i64 x2)).heap.size = w.heap.size ∧ Fr (fun k => k ≠ g) w ((wr.setCell ⟨g, o + j, none⟩ (.int .i64 x1)).setCell ⟨g, o + k, none⟩ (.int .i64 x2)) ∧ Rw ((wr.setCell ⟨g, o + j, none⟩ (.int .i64 x1)).setCell ⟨g, o + k, none⟩ (.int .i64 x2)) g (rvI c o n (k + 1)) N) := Lib.hid (by
        obtain ⟨q1, q2, q3⟩ := HR.out
        refine ⟨by rw [size_setCell, size_setCell]; exact q1, (q2.setCell _ _ (fun _ h => h rfl)).setCell _ _ (fun _ h => h rfl), ((q3.set _ _).set _ _).congr (fun x _ => ?_)⟩
        rw [← rvI_step c o n k j hnj hkj x, hx1, hx2]
        unfold upd
        by_cases h1 : x = o + k
        · rw [if_pos h1, if_neg (by omega), if_pos h1]
        · rw [if_neg h1, if_neg h1])
      have HX := Lib.hid (And.intro hx1 hx2)
      have HJ := Lib.hid (And.intro hnj hJ)
      clear hz hF hRw hx1 hx2 hnj hJ hlt
      go_wp2
      go_region
      all_goals
        go_wp2
        go_roundw
        case rel =>
          first
            | exact ⟨k + 1, (j : Int) - 1, by go_num, rfl, by have := HJ.out; omega, by have := HJ.out; omega, HS.out.1, HS.out.2.1.drew, HS.out.2.2.fr (Fr.refl (fun _ => True) _).drew trivial⟩
            | exact ⟨k + 1, (j : Int) - 1, by go_num, rfl, by have := HJ.out; omega, by have := HJ.out; omega, HS2.out.1, HS2.out.2.1.drew, HS2.out.2.2.fr (Fr.refl (fun _ => True) _).drew trivial⟩
        case measure => simp [intOf]; omega
    · have HR := Lib.hid (And.intro hz (And.intro hF (hRw.congr (fun x _ => rvI_end c o n k (by omega) hk x))))
      clear hz hF hRw
      go_wp2
      go_end0
      exact ⟨⟨_, rfl⟩, HR.out⟩
end Go.Proofs.Ytclblidfamabdaa
