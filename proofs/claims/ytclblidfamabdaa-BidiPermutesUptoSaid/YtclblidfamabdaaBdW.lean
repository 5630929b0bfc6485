/- The small functions of the rules: Contains, the nearest ahead, the closures. -/
import Derived.Test.YtclblidfamabdaaBdS
set_option linter.unusedVariables false
set_option linter.unusedSimpArgs false
namespace Go.Proofs.Ytclblidfamabdaa
open Go.RowKit Go.Shelf Go.Lib Go.BigFrame
attribute [local go_sem] Oper.semAt_some

/-- Is a number among the first m? -/
def hasI (c : Nat → Int) (x : Int) (m : Nat) : Bool := (List.range m).any fun j => decide (x = c j)
theorem hasI_of {c : Nat → Int} {x : Int} {m k : Nat} (hk : k < m) (h : x = c k) : hasI c x m = true := by
  unfold hasI; rw [List.any_eq_true]; exact ⟨k, List.mem_range.2 hk, by simp [h]⟩
theorem hasI_no {c : Nat → Int} {x : Int} {m : Nat} (h : ∀ k, k < m → x ≠ c k) : hasI c x m = false := by
  unfold hasI; rw [List.any_eq_false]; exact fun k hk => by simpa using h k (List.mem_range.1 hk)
def IdxP (b : Bool) (w : World) (e : Ending) (w' : World) : Prop := ∃ r : Int, -1 ≤ r ∧ r ≤ 4194304 ∧ e = .returned (.int .i64 r) ∧ decide (0 ≤ r) = b ∧ w = w'
set_option maxRecDepth 1000000 in
theorem index_any (v : Value) (c : Nat → Int) (m : Nat) (x : Int) (w : World) (hm : m ≤ 4194304) (hv : Rd w v c m) :
    Calls Try.prog 97 #[v, .int .i64 x] w (IdxP (hasI c x m) w) := by
  obtain ⟨A, cap, rfl, hle, h1⟩ := hv
  obtain ⟨b, hb⟩ : ∃ b, hasI c x m = b := ⟨_, rfl⟩
  rw [hb]
  have HB := Lib.hid hb
  have H1 := Lib.hid h1
  clear hb h1
  go_enter Try.func97, Try.ntmps97
  go_wp2
  go_loop [8] (fun i => ∃ k : Nat, i = .int .i64 (k : Int) ∧ k ≤ m ∧ ∀ j, j < k → x ≠ c j) (fun i => m - (intOf i).toNat)
  case atStart => exact ⟨0, rfl, Nat.zero_le _, fun j h => absurd h (Nat.not_lt_zero _)⟩
  case round =>
    obtain ⟨k, rfl, hk, hno⟩ := hrel
    by_cases hlt : k < m
    · obtain ⟨g, o, rfl, hc⟩ := H1.out (by omega)
      have c0 := hc k hlt
      obtain ⟨y, hy⟩ : ∃ y, c k = y := ⟨_, rfl⟩
      rw [hy] at c0
      have HY := Lib.hid hy
      have HN := Lib.hid hno
      clear hc hno hy
      by_cases hxy : x = y
      · subst hxy
        go_wp2
        go_ret
        exact ⟨(k : Int), by omega, by omega, rfl, by rw [← HB.out, hasI_of hlt HY.out.symm]; simp, rfl⟩
      · have b0 : (x == y) = false := by simpa using hxy
        go_wp2
        go_round
        case rel =>
          refine ⟨k + 1, by go_num, hlt, fun j hj => ?_⟩
          rcases Nat.lt_or_ge j k with h | h
          · exact HN.out j h
          · obtain rfl : j = k := by omega
            rw [HY.out]; exact hxy
        case measure => simp [intOf]; omega
    · obtain rfl : m = k := by omega
      have HN := Lib.hid hno
      clear hno
      go_wp2
      go_ret
      exact ⟨-1, by omega, by omega, rfl, by rw [← HB.out, hasI_no HN.out]; rfl, rfl⟩
set_option maxRecDepth 1000000 in
theorem contains_any (v : Value) (c : Nat → Int) (m : Nat) (x : Int) (w : World) (hm : m ≤ 4194304) (hv : Rd w v c m) :
    Calls Try.prog 80 #[v, .int .i64 x] w fun e w' => e = .returned (.bool (hasI c x m)) ∧ w = w' := by
  have IX := Lib.hid (index_any v c m x w hm hv)
  obtain ⟨b, hb⟩ : ∃ b, hasI c x m = b := ⟨_, rfl⟩
  rw [hb] at IX ⊢
  clear hv hb
  go_enter Try.func80, Try.ntmps80
  go_wp2_with (go_at_call 97; refine IX.out.mono ?_; rintro e w1 ⟨r, hr1, hr2, rfl, hrb, rfl⟩)
  go_ret
  exact ⟨rC_bool (by rw [← hrb]), rfl⟩

set_option maxRecDepth 1000000 in
/-- The nearest one ahead of some classes. -/
theorem ahead_any (kb sb g n m q side : Nat) (ov : Value) (l : Nat → Nat) (ofs : Nat → Int) (S : Nat → Bool) (w : World) (hn : n ≤ 4194304) (hq : q ≤ n) (hm : m ≤ 4194304) (hk : w.cell? ⟨kb, 0, none⟩ = some (.slice (some ⟨g, 0, none⟩) n n)) (hs : w.cell? ⟨sb, 0, none⟩ = some (.int .i64 (side : Int)))
    (hR : Rw w g (fun j => (l j : Int)) n) (hO : Rd w ov ofs m) (hS : ∀ j, j < n → hasI ofs (l j : Int) m = S (l j)) :
    Calls Try.prog 79 #[.int .i64 (q : Int), ov, .pointer (some ⟨kb, 0, none⟩), .pointer (some ⟨sb, 0, none⟩)] w fun e w' => e = .returned (.int .i64 (B.ahd S l side q : Int)) ∧ w = w' := by
  have CO := Lib.hid (fun x => contains_any ov ofs m x w hm hO)
  have HR := Lib.hid hR
  have HS := Lib.hid hS
  obtain ⟨X, hX⟩ : ∃ X, B.ahd S l side q = X := ⟨_, rfl⟩
  rw [hX]
  have HX := Lib.hid hX
  clear hR hO hS hX
  go_enter Try.func79, Try.ntmps79
  go_wp2
  go_loop [0] (fun i => ∃ d : Nat, d ≤ q ∧ i = .int .i64 ((d : Int) - 1) ∧ B.ahd S l side d = X) (fun i => (intOf i + 1).toNat)
  case atStart => exact ⟨q, Nat.le_refl _, rfl, HX.out⟩
  case round =>
    obtain ⟨d, hd, rfl, hX⟩ := hrel
    by_cases hd0 : d = 0
    · subst hd0
      have HX2 := Lib.hid (show side = X from hX)
      clear hX
      go_wp2
      go_ret
      exact ⟨rC_int (by rw [HX2.out]), rfl⟩
    · obtain ⟨i, rfl⟩ : ∃ i, d = i + 1 := ⟨d - 1, by omega⟩
      have e1 : (((i + 1 : Nat) : Int) - 1) = (i : Int) := by omega
      rw [e1]
      have hin : i < n := by omega
      have c0 := (HR.out.at hin).1
      have HSi := HS.out i hin
      have COi := CO.out (l i : Int)
      rw [HSi] at COi
      have hX' : (if S (l i) = true then l i else B.ahd S l side i) = X := hX
      obtain ⟨y, hy⟩ : ∃ y, l i = y := ⟨_, rfl⟩
      rw [hy] at c0 COi hX'
      obtain ⟨b, hb⟩ : ∃ b, S y = b := ⟨_, rfl⟩
      rw [hb] at COi hX'
      have COi := Lib.hid COi
      have HX2 := Lib.hid hX'
      clear HSi hX hX' hy hb e1
      cases b
      · go_wp2_with (go_at_call 80; (with_reducible refine COi.out.mono ?_); rintro e w1 ⟨rfl, rfl⟩)
        go_round
        case rel => exact ⟨i, by omega, rfl, HX2.out⟩
        case measure => simp [intOf]
      · go_wp2_with (go_at_call 80; (with_reducible refine COi.out.mono ?_); rintro e w1 ⟨rfl, rfl⟩)
        go_ret
        exact ⟨rC_int (by rw [← HX2.out]; rfl), rfl⟩

theorem et_any (x : Nat) (w : World) : Calls Try.prog 82 #[.int .i64 (x : Int)] w fun e w' => e = .returned (.bool (B.isET x)) ∧ w = w' := by
  obtain ⟨b, hb⟩ : ∃ b, B.isET x = b := ⟨_, rfl⟩
  rw [hb]
  have HB := Lib.hid hb
  clear hb
  by_cases h : x = 7
  · subst h
    go_enter Try.func82, Try.ntmps82
    go_wp2
    go_ret
    exact ⟨rC_bool (by rw [← HB.out]; rfl), rfl⟩
  · have b0 : ((x : Int) == 7) = false := by simp; omega
    go_enter Try.func82, Try.ntmps82
    go_wp2
    go_ret
    exact ⟨rC_bool (by rw [← HB.out]; unfold B.isET; simp [h]), rfl⟩
set_option maxRecDepth 1000000 in
theorem neutral_any (x : Nat) (w : World) (hx : x ≤ 17) : Calls Try.prog 84 #[.int .i64 (x : Int)] w fun e w' => e = .returned (.bool (B.neu x)) ∧ w = w' := by
  have hcase : x = 0 ∨ x = 1 ∨ x = 2 ∨ x = 3 ∨ x = 4 ∨ x = 5 ∨ x = 6 ∨ x = 7 ∨ x = 8 ∨ x = 9 ∨ x = 10 ∨ x = 11 ∨ x = 12 ∨ x = 13 ∨ x = 14 ∨ x = 15 ∨ x = 16 ∨ x = 17 := by omega
  rcases hcase with rfl | rfl | rfl | rfl | rfl | rfl | rfl | rfl | rfl | rfl | rfl | rfl | rfl | rfl | rfl | rfl | rfl | rfl
  all_goals
    go_enter Try.func84, Try.ntmps84
    go_wp2
    go_ret
    exact ⟨rfl, rfl⟩
end Go.Proofs.Ytclblidfamabdaa
