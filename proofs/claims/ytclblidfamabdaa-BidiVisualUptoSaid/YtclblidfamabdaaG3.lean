/- bidi.stretches. -/
import Derived.Test.YtclblidfamabdaaG2
import Derived.Deep.CutBlock
import Derived.StillTailTactics
set_option linter.unusedVariables false
set_option linter.unusedSimpArgs false
namespace Go.Proofs.Ytclblidfamabdaa
open Go.RowKit Go.Shelf Go.Lib Go.BigFrame
attribute [local go_sem] Oper.semAt_some

/-- A row up to a place laid over. -/
def ovTo (p : Nat → Bool) (F : Nat → Nat → Nat) (n : Nat) (l : Nat → Nat) (i : Nat) (k : Nat) : Int := if k < i then (B.ov p F n l k : Int) else (l k : Int)

set_option maxRecDepth 1000000 in
set_option maxHeartbeats 4000000 in
theorem stretches_any (ofF clF : FuncId) (caps : Array Value) (g n : Nat) (l : Nat → Nat) (p : Nat → Bool) (F : Nat → Nat → Nat) (C : World → Prop) (w : World) (hn : n ≤ 4194304) (hg : g < w.heap.size)
    (hC : ∀ A A', Fr (fun k => k ≠ g) A A' → w.heap.size ≤ A.heap.size → C A → C A') (hCw : C w) (hR : Rw w g (fun k => (l k : Int)) n)
    (heo : ∀ args w, (callFunc ofF args).run Try.prog w = .ok (.enter ofF args) w) (hec : ∀ args w, (callFunc clF args).run Try.prog w = .ok (.enter clF args) w)
    (HO : ∀ (k : Nat) (W : World), k < n → Calls Try.prog ofF #[.int .i64 (l k : Int)] W fun e w' => e = .returned (.bool (p (l k))) ∧ W = w')
    (HCl : ∀ (cur : Nat → Int) (W : World) (i j : Nat), i < j → j ≤ n → C W → Rw W g cur n → (0 < i → cur (i - 1) = (l (i - 1) : Int)) → (j < n → cur j = (l j : Int)) → Calls Try.prog clF (#[.int .i64 (i : Int), .int .i64 (j : Int)] ++ caps) W fun e w' => e = .returned (.int .i64 (F i j : Int)) ∧ Below W.heap.size W w') :
    Calls Try.prog 81 #[.slice (some ⟨g, 0, none⟩) n n, .func (.func ofF) #[] #[], .func (.func clF) #[] caps] w fun e w' => (∃ v, e = .returned v) ∧ Fr (fun k => k ≠ g) w w' ∧ Rw w' g (fun k => (B.ov p F n l k : Int)) n := by
  have HO := Lib.hid HO
  have HCl := Lib.hid HCl
  have HC := Lib.hid hC
  have HR := Lib.hid (And.intro hCw hR)
  clear hC hCw hR
  go_enter Try.func81, Try.ntmps81
  go_wp2
  go_loopw [6] (fun iv wr => ∃ i : Nat, iv = .int .i64 (i : Int) ∧ i ≤ n ∧ Fr (fun k => k ≠ g) w wr ∧ Rw wr g (ovTo p F n l i) n ∧ (i = 0 ∨ p (l (i - 1)) = false ∨ (i < n → p (l i) = false))) (fun iv _ => n - (RowKit.intOf iv).toNat)
  case atStart => exact ⟨0, rfl, Nat.zero_le _, Fr.refl _ _, HR.out.2.congr (fun j _ => by unfold ovTo; rw [if_neg (Nat.not_lt_zero _)]), .inl rfl⟩
  case round =>
    obtain ⟨i, rfl, hi, hFr, hRw, hside⟩ := hrel
    by_cases hlt : i < n
    · have HX := Lib.hid (And.intro hFr (And.intro hRw hside))
      clear hFr hRw hside
      go_upto_block 2 with fail
      go_cut [7] (fun jv wx => ∃ j : Nat, jv = .int .i64 (j : Int) ∧ wx = wr ∧ i ≤ j ∧ j ≤ n ∧ (∀ k, i ≤ k → k < j → p (l k) = true) ∧ (j < n → p (l j) = false))
      case first =>
        go_wp2
        go_loopw [7] (fun jv wx => ∃ j : Nat, jv = .int .i64 (j : Int) ∧ wx = wr ∧ i ≤ j ∧ j ≤ n ∧ (∀ k, i ≤ k → k < j → p (l k) = true)) (fun jv _ => n - (RowKit.intOf jv).toNat)
        case atStart => exact ⟨i, rfl, rfl, Nat.le_refl _, hi, fun k h1 h2 => by omega⟩
        case round =>
          obtain ⟨j, rfl, rfl, hij, hjn, hall⟩ := hrel
          by_cases hjl : j < n
          · have c0 := (HX.out.2.1.at hjl).1
            rw [show ovTo p F n l i j = (l j : Int) by unfold ovTo; rw [if_neg (by omega)]] at c0
            have HOj := HO.out j
            obtain ⟨b, hb⟩ : ∃ b, p (l j) = b := ⟨_, rfl⟩
            rw [hb] at HOj
            have HOj := Lib.hid HOj
            have HB := Lib.hid hb
            have HA := Lib.hid hall
            clear hb hall
            cases b
            · go_wp2_with ((with_reducible refine (HOj.out _ hjl).mono ?_); rintro e w2 ⟨rfl, rfl⟩)
              go_meet
              exact ⟨j, rfl, rfl, hij, hjn, HA.out, fun _ => HB.out⟩
            · go_wp2_with ((with_reducible refine (HOj.out _ hjl).mono ?_); rintro e w2 ⟨rfl, rfl⟩)
              go_roundw
              case rel =>
                refine ⟨j + 1, by go_num, by trivial, by omega, hjl, fun k h1 h2 => ?_⟩
                rcases Nat.lt_or_ge k j with h | h
                · exact HA.out k h1 h
                · obtain rfl : k = j := by omega
                  exact HB.out
              case measure => simp [RowKit.intOf]; omega
          · have HA := Lib.hid hall
            clear hall
            go_wp2
            go_meet
            exact ⟨j, rfl, rfl, hij, hjn, HA.out, fun h => absurd h hjl⟩
      case rest =>
        obtain ⟨j, rfl, rfl, hij, hjn, hall, hend⟩ := hcut
        have hrg : B.rgt p l n i = j := B.rgt_is p l n i j hij hjn hall hend
        have HJ := Lib.hid (And.intro hall (And.intro hend hrg))
        clear hall hend hrg
        by_cases hj : i < j
        · have hside : i = 0 ∨ p (l (i - 1)) = false := by
            rcases HX.out.2.2 with h | h | h
            · exact .inl h
            · exact .inr h
            · have := h hlt; rw [HJ.out.1 i (Nat.le_refl _) hj] at this; cases this
          have hov : ∀ k, i ≤ k → k < j → B.ov p F n l k = F i j := fun k h1 h2 => B.ov_in p F n l i j k hside HJ.out.2.2 hi h1 h2
          have HOV := Lib.hid hov
          have hov0 : 0 < i → ovTo p F n l i (i - 1) = (l (i - 1) : Int) := fun h0 => by
            unfold ovTo
            rw [if_pos (by omega)]
            rcases hside with h | h
            · omega
            · unfold B.ov; rw [if_neg (by simp [h])]
          have hovj : j < n → ovTo p F n l i j = (l j : Int) := fun _ => by unfold ovTo; rw [if_neg (by omega)]
          have CL := Lib.hid (HCl.out (ovTo p F n l i) wc i j hj hjn (HC.out _ _ HX.out.1 (Nat.le_refl _) HR.out.1) HX.out.2.1 hov0 hovj)
          obtain ⟨f, hf⟩ : ∃ f, F i j = f := ⟨_, rfl⟩
          rw [hf] at CL HOV
          clear hside hov hov0 hovj hf
          go_wp2_with ((with_reducible refine CL.out.mono ?_); rintro e w2 ⟨rfl, hb2⟩)
          have hR2 : Rw w2 g (ovTo p F n l i) n := HX.out.2.1.fr (Fr.of_below (S := fun k => k < wc.heap.size) hb2 (fun k _ h => h)) (by have := HX.out.1.size; show g < wc.heap.size; omega)
          have HR2 := Lib.hid hR2
          have HB2 := Lib.hid hb2
          clear hR2 hb2
          go_loopw [9] (fun qv wx => ∃ q : Nat, qv = .int .i64 (q : Int) ∧ i ≤ q ∧ q ≤ j ∧ Fr (fun k => k ≠ g) w2 wx ∧ Rw wx g (fun k => if k < q then (B.ov p F n l k : Int) else (l k : Int)) n) (fun qv _ => j - (RowKit.intOf qv).toNat)
          case atStart => exact ⟨i, rfl, Nat.le_refl _, by omega, Fr.refl _ _, HR2.out⟩
          case round =>
            obtain ⟨q, rfl, hiq, hqj, hFq, hRq⟩ := hrel
            by_cases hql : q < j
            · have f0 := (hRq.at (show q < n by omega)).2
              obtain ⟨u0, c0⟩ : ∃ u, wr.cell? ⟨g, q, none⟩ = some u := ⟨_, (hRq.at (show q < n by omega)).1⟩
              have HQ := Lib.hid (And.intro hFq hRq)
              clear hFq hRq
              go_wp2
              go_roundw
              case rel =>
                refine ⟨q + 1, by go_num, by omega, hql, HQ.out.1.setCell _ _ (fun _ h => h rfl), (HQ.out.2.set q (f : Int)).congr (fun k hk => ?_)⟩
                unfold upd
                by_cases h1 : k = q
                · subst h1; rw [if_pos rfl, if_pos (by omega), HOV.out k hiq hql]
                · rw [if_neg h1]
                  show (if k < q then (B.ov p F n l k : Int) else (l k : Int)) = _
                  by_cases h2 : k < q
                  · rw [if_pos h2, if_pos (by omega)]
                  · rw [if_neg h2, if_neg (by omega)]
              case measure => simp [RowKit.intOf]; omega
            · obtain rfl : j = q := by omega
              have HQ := Lib.hid (And.intro hFq hRq)
              clear hFq hRq
              go_wp2
              go_roundw
              case rel => exact ⟨j, by go_num, hjn, HX.out.1.trans ((Fr.of_below (S := fun k => k ≠ g) HB2.out (fun k hk _ => hk)).trans HQ.out.1), HQ.out.2, .inr (.inr HJ.out.2.1)⟩
              case measure => simp [RowKit.intOf]; omega
        · obtain rfl : i = j := by omega
          have hend2 : i < n → p (l i) = false := HJ.out.2.1
          have HE := Lib.hid hend2
          clear hend2
          go_wp2
          go_roundw
          case rel =>
            refine ⟨i + 1, by go_num, hlt, HX.out.1, HX.out.2.1.congr (fun k hk => ?_), .inr (.inl (HE.out hlt))⟩
            unfold ovTo
            by_cases h1 : k < i
            · rw [if_pos h1, if_pos (by omega)]
            · rw [if_neg h1]
              by_cases h2 : k < i + 1
              · obtain rfl : k = i := by omega
                rw [if_pos h2]; unfold B.ov; rw [if_neg (by simp [HE.out hlt])]
              · rw [if_neg h2]
          case measure => simp [RowKit.intOf]; omega
    · obtain rfl : n = i := by omega
      have HX := Lib.hid (And.intro hFr hRw)
      clear hFr hRw hside
      go_wp2
      go_end0
      exact ⟨⟨_, rfl⟩, HX.out.1, HX.out.2.congr (fun k hk => by unfold ovTo; rw [if_pos hk])⟩
end Go.Proofs.Ytclblidfamabdaa

/- The small functions of the rules: Contains, the nearest ahead, the closures. -/
set_option linter.unusedVariables false
set_option linter.unusedSimpArgs false
namespace Go.Proofs.Ytclblidfamabdaa
open Go.RowKit Go.Shelf Go.Lib Go.BigFrame
attribute [local go_sem] Oper.semAt_some

/-- Is a number among the first m? -/
def hasI (c : Nat → Int) (x : Int) (m : Nat) : Bool := (List.range m).any fun j => decide (x = c j)
theorem hasI_of {c : Nat → Int} {x : Int} {m k : Nat} (hk : k < m) (h : x = c k) : hasI c x m = true := by
  unfold hasI; rw [List.any_eq_true]; exact ⟨k, List.mem_range.2 hk, by simp [h]⟩
theorem hasI_no {c : Nat → Int} {x : Int} {m : Nat} (h : ∀ k, k < m → x ≠ c k) : hasI c x m = false := by
  unfold hasI; rw [List.any_eq_false]; exact fun k hk => by simpa using h k (List.mem_range.1 hk)
def IdxP (b : Bool) (w : World) (e : Ending) (w' : World) : Prop := ∃ r : Int, -1 ≤ r ∧ r ≤ 4194304 ∧ e = .returned (.int .i64 r) ∧ decide (0 ≤ r) = b ∧ w = w'
set_option maxRecDepth 1000000 in
theorem index_any (v : Value) (c : Nat → Int) (m : Nat) (x : Int) (w : World) (hm : m ≤ 4194304) (hv : Rd w v c m) :
    Calls Try.prog 97 #[v, .int .i64 x] w (IdxP (hasI c x m) w) := by
  obtain ⟨A, cap, rfl, hle, h1⟩ := hv
  obtain ⟨b, hb⟩ : ∃ b, hasI c x m = b := ⟨_, rfl⟩
  rw [hb]
  have HB := Lib.hid hb
  have H1 := Lib.hid h1
  clear hb h1
  go_enter Try.func97, Try.ntmps97
  go_wp2
  go_loop [8] (fun i => ∃ k : Nat, i = .int .i64 (k : Int) ∧ k ≤ m ∧ ∀ j, j < k → x ≠ c j) (fun i => m - (RowKit.intOf i).toNat)
  case atStart => exact ⟨0, rfl, Nat.zero_le _, fun j h => absurd h (Nat.not_lt_zero _)⟩
  case round =>
    obtain ⟨k, rfl, hk, hno⟩ := hrel
    by_cases hlt : k < m
    · obtain ⟨g, o, rfl, hc⟩ := H1.out (by omega)
      have c0 := hc k hlt
      obtain ⟨y, hy⟩ : ∃ y, c k = y := ⟨_, rfl⟩
      rw [hy] at c0
      have HY := Lib.hid hy
      have HN := Lib.hid hno
      clear hc hno hy
      by_cases hxy : x = y
      · subst hxy
        go_wp2
        go_ret
        exact ⟨(k : Int), by omega, by omega, rfl, by rw [← HB.out, hasI_of hlt HY.out.symm]; simp, rfl⟩
      · have b0 : (x == y) = false := by simpa using hxy
        go_wp2
        go_round
        case rel =>
          refine ⟨k + 1, by go_num, hlt, fun j hj => ?_⟩
          rcases Nat.lt_or_ge j k with h | h
          · exact HN.out j h
          · obtain rfl : j = k := by omega
            rw [HY.out]; exact hxy
        case measure => simp [RowKit.intOf]; omega
    · obtain rfl : m = k := by omega
      have HN := Lib.hid hno
      clear hno
      go_wp2
      go_ret
      exact ⟨-1, by omega, by omega, rfl, by rw [← HB.out, hasI_no HN.out]; rfl, rfl⟩
set_option maxRecDepth 1000000 in
theorem contains_any (v : Value) (c : Nat → Int) (m : Nat) (x : Int) (w : World) (hm : m ≤ 4194304) (hv : Rd w v c m) :
    Calls Try.prog 80 #[v, .int .i64 x] w fun e w' => e = .returned (.bool (hasI c x m)) ∧ w = w' := by
  have IX := Lib.hid (index_any v c m x w hm hv)
  obtain ⟨b, hb⟩ : ∃ b, hasI c x m = b := ⟨_, rfl⟩
  rw [hb] at IX ⊢
  clear hv hb
  go_enter Try.func80, Try.ntmps80
  go_wp2_with (go_at_call 97; refine IX.out.mono ?_; rintro e w1 ⟨r, hr1, hr2, rfl, hrb, rfl⟩)
  go_ret
  exact ⟨rC_bool (by rw [← hrb]), rfl⟩

set_option maxRecDepth 1000000 in
/-- The nearest one ahead of some classes. -/
theorem ahead_any (kb sb g n m q side : Nat) (ov : Value) (l : Nat → Nat) (ofs : Nat → Int) (S : Nat → Bool) (w : World) (hn : n ≤ 4194304) (hq : q ≤ n) (hm : m ≤ 4194304) (hk : w.cell? ⟨kb, 0, none⟩ = some (.slice (some ⟨g, 0, none⟩) n n)) (hs : w.cell? ⟨sb, 0, none⟩ = some (.int .i64 (side : Int)))
    (hR : Rw w g (fun j => (l j : Int)) n) (hO : Rd w ov ofs m) (hS : ∀ j, j < n → hasI ofs (l j : Int) m = S (l j)) :
    Calls Try.prog 79 #[.int .i64 (q : Int), ov, .pointer (some ⟨kb, 0, none⟩), .pointer (some ⟨sb, 0, none⟩)] w fun e w' => e = .returned (.int .i64 (B.ahd S l side q : Int)) ∧ w = w' := by
  have CO := Lib.hid (fun x => contains_any ov ofs m x w hm hO)
  have HR := Lib.hid hR
  have HS := Lib.hid hS
  obtain ⟨X, hX⟩ : ∃ X, B.ahd S l side q = X := ⟨_, rfl⟩
  rw [hX]
  have HX := Lib.hid hX
  clear hR hO hS hX
  go_enter Try.func79, Try.ntmps79
  go_wp2
  go_loop [0] (fun i => ∃ d : Nat, d ≤ q ∧ i = .int .i64 ((d : Int) - 1) ∧ B.ahd S l side d = X) (fun i => (RowKit.intOf i + 1).toNat)
  case atStart => exact ⟨q, Nat.le_refl _, rfl, HX.out⟩
  case round =>
    obtain ⟨d, hd, rfl, hX⟩ := hrel
    by_cases hd0 : d = 0
    · subst hd0
      have HX2 := Lib.hid (show side = X from hX)
      clear hX
      go_wp2
      go_ret
      exact ⟨rC_int (by rw [HX2.out]), rfl⟩
    · obtain ⟨i, rfl⟩ : ∃ i, d = i + 1 := ⟨d - 1, by omega⟩
      have e1 : (((i + 1 : Nat) : Int) - 1) = (i : Int) := by omega
      rw [e1]
      have hin : i < n := by omega
      have c0 := (HR.out.at hin).1
      have HSi := HS.out i hin
      have COi := CO.out (l i : Int)
      rw [HSi] at COi
      have hX' : (if S (l i) = true then l i else B.ahd S l side i) = X := hX
      obtain ⟨y, hy⟩ : ∃ y, l i = y := ⟨_, rfl⟩
      rw [hy] at c0 COi hX'
      obtain ⟨b, hb⟩ : ∃ b, S y = b := ⟨_, rfl⟩
      rw [hb] at COi hX'
      have COi := Lib.hid COi
      have HX2 := Lib.hid hX'
      clear HSi hX hX' hy hb e1
      cases b
      · go_wp2_with (go_at_call 80; (with_reducible refine COi.out.mono ?_); rintro e w1 ⟨rfl, rfl⟩)
        go_round
        case rel => exact ⟨i, by omega, rfl, HX2.out⟩
        case measure => simp [RowKit.intOf]
      · go_wp2_with (go_at_call 80; (with_reducible refine COi.out.mono ?_); rintro e w1 ⟨rfl, rfl⟩)
        go_ret
        exact ⟨rC_int (by rw [← HX2.out]; rfl), rfl⟩

theorem et_any (x : Nat) (w : World) : Calls Try.prog 82 #[.int .i64 (x : Int)] w fun e w' => e = .returned (.bool (B.isET x)) ∧ w = w' := by
  obtain ⟨b, hb⟩ : ∃ b, B.isET x = b := ⟨_, rfl⟩
  rw [hb]
  have HB := Lib.hid hb
  clear hb
  by_cases h : x = 7
  · subst h
    go_enter Try.func82, Try.ntmps82
    go_wp2
    go_ret
    exact ⟨rC_bool (by rw [← HB.out]; rfl), rfl⟩
  · have b0 : ((x : Int) == 7) = false := by simp; omega
    go_enter Try.func82, Try.ntmps82
    go_wp2
    go_ret
    exact ⟨rC_bool (by rw [← HB.out]; unfold B.isET; simp [h]), rfl⟩
set_option maxRecDepth 1000000 in
theorem neutral_any (x : Nat) (w : World) (hx : x ≤ 17) : Calls Try.prog 84 #[.int .i64 (x : Int)] w fun e w' => e = .returned (.bool (B.neu x)) ∧ w = w' := by
  have hcase : x = 0 ∨ x = 1 ∨ x = 2 ∨ x = 3 ∨ x = 4 ∨ x = 5 ∨ x = 6 ∨ x = 7 ∨ x = 8 ∨ x = 9 ∨ x = 10 ∨ x = 11 ∨ x = 12 ∨ x = 13 ∨ x = 14 ∨ x = 15 ∨ x = 16 ∨ x = 17 := by omega
  rcases hcase with rfl | rfl | rfl | rfl | rfl | rfl | rfl | rfl | rfl | rfl | rfl | rfl | rfl | rfl | rfl | rfl | rfl | rfl
  all_goals
    go_enter Try.func84, Try.ntmps84
    go_wp2
    go_ret
    exact ⟨rfl, rfl⟩
end Go.Proofs.Ytclblidfamabdaa

/- The two closures that lay classes over stretches. -/
set_option linter.unusedVariables false
set_option linter.unusedSimpArgs false
namespace Go.Proofs.Ytclblidfamabdaa
open Go.RowKit Go.Shelf Go.Lib Go.BigFrame
attribute [local go_sem] Oper.semAt_some

set_option maxRecDepth 1000000 in
set_option maxHeartbeats 4000000 in
theorem f5_any (kb g n i j : Nat) (l : Nat → Nat) (cur : Nat → Int) (W : World) (hn : n ≤ 4194304) (hij : i < j) (hjn : j ≤ n) (hk : W.cell? ⟨kb, 0, none⟩ = some (.slice (some ⟨g, 0, none⟩) n n)) (hR : Rw W g cur n) (h1 : 0 < i → cur (i - 1) = (l (i - 1) : Int)) (h2 : j < n → cur j = (l j : Int)) :
    Calls Try.prog 83 #[.int .i64 (i : Int), .int .i64 (j : Int), .pointer (some ⟨kb, 0, none⟩)] W fun e w' => e = .returned (.int .i64 (B.F5 n l i j : Int)) ∧ Below W.heap.size W w' := by
  obtain ⟨X, hX⟩ : ∃ X, B.F5 n l i j = X := ⟨_, rfl⟩
  rw [hX]
  have HX := Lib.hid (show X = if (0 < i ∧ l (i - 1) = 4) ∨ (j < n ∧ l j = 4) then 4 else 7 from hX.symm)
  clear hX
  have hA : (0 < i ∧ l (i - 1) = 4) ∨ ¬ (0 < i ∧ l (i - 1) = 4) := Classical.em _
  have HR := Lib.hid hR
  rcases Nat.eq_zero_or_pos i with hi0 | hi0
  · subst hi0
    have d0 : decide ((0 : Int) < 0) = false := rfl
    by_cases hjl : j < n
    · have c1 := (HR.out.at hjl).1
      rw [h2 hjl] at c1
      obtain ⟨y, hy⟩ : ∃ y, l j = y := ⟨_, rfl⟩
      rw [hy] at c1 HX
      clear hR h1 h2 hA hy
      by_cases hy4 : y = 4
      · subst hy4
        go_enter Try.func83, Try.ntmps83
        go_wp2
        go_ret
        exact ⟨rC_int (by rw [HX.out, if_pos (.inr ⟨hjl, by trivial⟩)]; rfl), Below.refl _ _⟩
      · have b0 : ((y : Int) == 4) = false := by simp; omega
        go_enter Try.func83, Try.ntmps83
        go_wp2
        go_ret
        exact ⟨rC_int (by rw [HX.out, if_neg (by omega)]; rfl), Below.refl _ _⟩
    · have d1 : decide (j < n) = false := decide_eq_false hjl
      have d2 : decide ((j : Int) < (n : Int)) = false := decide_eq_false (by omega)
      clear hR h1 h2 hA
      go_enter Try.func83, Try.ntmps83
      go_wp2
      go_ret
      exact ⟨rC_int (by rw [HX.out, if_neg (by omega)]; rfl), Below.refl _ _⟩
  · obtain ⟨k, rfl⟩ : ∃ k, i = k + 1 := ⟨i - 1, by omega⟩
    have c0 := (HR.out.at (show k < n by omega)).1
    have h1' : cur k = (l k : Int) := h1 hi0
    rw [h1'] at c0
    rw [show k + 1 - 1 = k from rfl] at HX
    obtain ⟨x, hx⟩ : ∃ x, l k = x := ⟨_, rfl⟩
    rw [hx] at c0 HX
    by_cases hx4 : x = 4
    · subst hx4
      clear hR h1 h2 hA hx h1'
      go_enter Try.func83, Try.ntmps83
      go_wp2
      go_ret
      exact ⟨rC_int (by rw [HX.out, if_pos (.inl ⟨hi0, by trivial⟩)]; rfl), Below.refl _ _⟩
    · have bx : ((x : Int) == 4) = false := by simp; omega
      by_cases hjl : j < n
      · have c1 := (HR.out.at hjl).1
        rw [h2 hjl] at c1
        obtain ⟨y, hy⟩ : ∃ y, l j = y := ⟨_, rfl⟩
        rw [hy] at c1 HX
        clear hR h1 h2 hA hy hx h1'
        by_cases hy4 : y = 4
        · subst hy4
          go_enter Try.func83, Try.ntmps83
          go_wp2
          go_ret
          exact ⟨rC_int (by rw [HX.out, if_pos (.inr ⟨hjl, by trivial⟩)]; rfl), Below.refl _ _⟩
        · have b0 : ((y : Int) == 4) = false := by simp; omega
          go_enter Try.func83, Try.ntmps83
          go_wp2
          go_ret
          exact ⟨rC_int (by rw [HX.out, if_neg (by omega)]; rfl), Below.refl _ _⟩
      · have d1 : decide (j < n) = false := decide_eq_false hjl
        have d2 : decide ((j : Int) < (n : Int)) = false := decide_eq_false (by omega)
        clear hR h1 h2 hA hx h1'
        go_enter Try.func83, Try.ntmps83
        go_wp2
        go_ret
        exact ⟨rC_int (by rw [HX.out, if_neg (by omega)]; rfl), Below.refl _ _⟩

/-- The answer of the other one. -/
def f8 (side a z : Nat) : Nat := if a = 17 ∧ z = 17 then 17 else if a ≠ 17 ∧ z ≠ 17 then 15 else side
set_option maxRecDepth 1000000 in
set_option maxHeartbeats 4000000 in
theorem f8_any (sb kb g n i j side : Nat) (l : Nat → Nat) (cur : Nat → Int) (W : World) (hn : n ≤ 4194304) (hij : i < j) (hjn : j ≤ n) (hs : W.cell? ⟨sb, 0, none⟩ = some (.int .i64 (side : Int))) (hk : W.cell? ⟨kb, 0, none⟩ = some (.slice (some ⟨g, 0, none⟩) n n)) (hR : Rw W g cur n) (h1 : 0 < i → cur (i - 1) = (l (i - 1) : Int)) (h2 : j < n → cur j = (l j : Int)) :
    Calls Try.prog 85 #[.int .i64 (i : Int), .int .i64 (j : Int), .pointer (some ⟨sb, 0, none⟩), .pointer (some ⟨kb, 0, none⟩)] W fun e w' => e = .returned (.int .i64 (B.F8 side n l i j : Int)) ∧ Below W.heap.size W w' := by
  obtain ⟨a, ha⟩ : ∃ a, (if 0 < i then l (i - 1) else side) = a := ⟨_, rfl⟩
  obtain ⟨z, hz⟩ : ∃ z, (if j < n then l j else side) = z := ⟨_, rfl⟩
  have HX : Hid (B.F8 side n l i j = f8 side a z) := Lib.hid (by unfold B.F8 f8; rw [ha, hz])
  obtain ⟨X, hX⟩ : ∃ X, B.F8 side n l i j = X := ⟨_, rfl⟩
  rw [hX] at HX ⊢
  clear hX
  have HA : Hid ((i = 0 ∧ a = side) ∨ (0 < i ∧ W.cell? ⟨g, i - 1, none⟩ = some (.int .i64 (a : Int)))) := Lib.hid (by
    rcases Nat.eq_zero_or_pos i with h | h
    · left; rw [if_neg (by omega)] at ha; exact ⟨h, ha.symm⟩
    · right; rw [if_pos h] at ha; refine ⟨h, ?_⟩; rw [(hR.at (show i - 1 < n by omega)).1, h1 h, ha])
  have HZ : Hid ((j = n ∧ z = side) ∨ (j < n ∧ W.cell? ⟨g, j, none⟩ = some (.int .i64 (z : Int)))) := Lib.hid (by
    by_cases h : j < n
    · right; rw [if_pos h] at hz; refine ⟨h, ?_⟩; rw [(hR.at h).1, h2 h, hz]
    · left; rw [if_neg h] at hz; exact ⟨by omega, hz.symm⟩)
  clear ha hz hR h1 h2
  have hcase : (a = 17 ∧ z = 17) ∨ (a ≠ 17 ∧ z ≠ 17) ∨ (a = 17 ∧ z ≠ 17) ∨ (a ≠ 17 ∧ z = 17) := by omega
  obtain ⟨A, hA⟩ : ∃ A : Int, (a : Int) = A := ⟨_, rfl⟩
  obtain ⟨Z, hZ⟩ : ∃ Z : Int, (z : Int) = Z := ⟨_, rfl⟩
  obtain ⟨b1, hb1⟩ : ∃ b, (A == 17) = b := ⟨_, rfl⟩
  obtain ⟨b2, hb2⟩ : ∃ b, (Z == 17) = b := ⟨_, rfl⟩
  have hb3 : (A != 17) = !b1 := by rw [← hb1]; rfl
  have hb4 : (Z != 17) = !b2 := by rw [← hb2]; rfl
  have HV : Hid (X = if b1 = true ∧ b2 = true then 17 else if b1 = false ∧ b2 = false then 15 else side) := Lib.hid (by
    rw [HX.out, ← hb1, ← hb2, ← hA, ← hZ]
    unfold f8
    rcases hcase with ⟨h1, h2⟩ | ⟨h1, h2⟩ | ⟨h1, h2⟩ | ⟨h1, h2⟩
    · subst h1 h2; rfl
    · rw [if_neg (by omega), if_pos ⟨h1, h2⟩, if_neg (by simp; omega), if_pos (by simp; omega)]
    · subst h1; rw [if_neg (by omega), if_neg (by omega), if_neg (by simp; omega), if_neg (by simp)]
    · subst h2; rw [if_neg (by omega), if_neg (by omega), if_neg (by simp; omega), if_neg (by simp)])
  have HA2 : Hid ((i = 0 ∧ (side : Int) = A) ∨ (0 < i ∧ W.cell? ⟨g, i - 1, none⟩ = some (.int .i64 A))) := Lib.hid (by rw [← hA]; rcases HA.out with ⟨h1, h2⟩ | h; exact .inl ⟨h1, by rw [h2]⟩; exact .inr h)
  have HZ2 : Hid ((j = n ∧ (side : Int) = Z) ∨ (j < n ∧ W.cell? ⟨g, j, none⟩ = some (.int .i64 Z))) := Lib.hid (by rw [← hZ]; rcases HZ.out with ⟨h1, h2⟩ | h; exact .inl ⟨h1, by rw [h2]⟩; exact .inr h)
  clear hcase hA hZ HA HZ HX
  obtain ⟨Sd, hSd⟩ : ∃ S : Int, (side : Int) = S := ⟨_, rfl⟩
  rw [hSd] at hs HA2 HZ2
  have HSd := Lib.hid hSd
  clear hSd
  go_enter Try.func85, Try.ntmps85
  go_wp2
  go_quiet (fail)
  go_upto_if 12 with fail
  go_cut [7] (fun s7 wx => s7 = .int .i64 A ∧ wx = W.drewN nq)
  case first =>
    rcases HA2.out with ⟨h1, h2⟩ | ⟨h1, h2⟩
    · subst h1
      subst h2
      have d0 : decide ((0 : Int) < 0) = false := rfl
      go_wp2_with fail
      go_meet
      exact ⟨rfl, rfl⟩
    · obtain ⟨k, rfl⟩ : ∃ k, i = k + 1 := ⟨i - 1, by omega⟩
      have c0 : W.cell? ⟨g, k, none⟩ = some (.int .i64 A) := h2
      have hkn : k < n := by omega
      clear h2
      go_wp2_with fail
      go_meet
      exact ⟨rfl, rfl⟩
  case rest =>
    obtain ⟨rfl, rfl⟩ := hcut
    go_upto_if 21 with fail
    go_cut [8] (fun s8 wx => s8 = .int .i64 Z ∧ wx = W.drewN nq)
    case first =>
      rcases HZ2.out with ⟨h1, h2⟩ | ⟨h1, h2⟩
      · subst h1
        subst h2
        go_wp2_with fail
        go_meet
        exact ⟨rfl, rfl⟩
      · go_wp2_with fail
        go_meet
        exact ⟨rfl, rfl⟩
    case rest =>
      obtain ⟨rfl, rfl⟩ := hcut
      cases b1 <;> cases b2
      all_goals
        simp only [Bool.not_true, Bool.not_false] at hb3 hb4
        go_wp2
        go_ret
        exact ⟨rC_int (by rw [HV.out]; first | rfl | exact HSd.out.symm), below_dn (Below.refl _ _) _⟩
end Go.Proofs.Ytclblidfamabdaa

/- bidi.settled; bidi.weak: the first loops. -/
set_option linter.unusedVariables false
set_option linter.unusedSimpArgs false
namespace Go.Proofs.Ytclblidfamabdaa
open Go.RowKit Go.Shelf Go.Lib Go.BigFrame
attribute [local go_sem] Oper.semAt_some

theorem enters_et : ∀ args w, (callFunc 82 args).run Try.prog w = .ok (.enter 82 args) w := enters_of Try.func82 (by kernel_rfl) rfl
theorem enters_f5 : ∀ args w, (callFunc 83 args).run Try.prog w = .ok (.enter 83 args) w := enters_of Try.func83 (by kernel_rfl) rfl
theorem enters_neu : ∀ args w, (callFunc 84 args).run Try.prog w = .ok (.enter 84 args) w := enters_of Try.func84 (by kernel_rfl) rfl
theorem enters_f8 : ∀ args w, (callFunc 85 args).run Try.prog w = .ok (.enter 85 args) w := enters_of Try.func85 (by kernel_rfl) rfl

/-- What holds between the loops: the boxes; the row. -/
structure Wk (w : World) (g n kb sb side : Nat) (c : Nat → Int) (W : World) : Prop where
  fr : Fr (fun k => k ≠ g) w W
  k : W.cell? ⟨kb, 0, none⟩ = some (.slice (some ⟨g, 0, none⟩) n n)
  s : W.cell? ⟨sb, 0, none⟩ = some (.int .i64 (side : Int))
  row : Rw W g c n
  ne : kb ≠ g ∧ sb ≠ g
theorem Wk.set {w : World} {g n kb sb side : Nat} {c : Nat → Int} {W : World} (h : Wk w g n kb sb side c W) (i : Nat) (x : Int) : Wk w g n kb sb side (upd c i x) (W.setCell ⟨g, i, none⟩ (.int .i64 x)) := by
  have hf : Fr (fun k => k ≠ g) W (W.setCell ⟨g, i, none⟩ (.int .i64 x)) := (Fr.refl _ _).setCell _ _ (fun _ hh => hh rfl)
  exact ⟨h.fr.trans hf, hf.cell h.k h.ne.1, hf.cell h.s h.ne.2, h.row.set i x, h.ne⟩
theorem Wk.to {w : World} {g n kb sb side : Nat} {c d : Nat → Int} {W W' : World} (h : Wk w g n kb sb side c W) (hf : Fr (fun k => k ≠ g) W W') (hr : Rw W' g d n) : Wk w g n kb sb side d W' :=
  ⟨h.fr.trans hf, hf.cell h.k h.ne.1, hf.cell h.s h.ne.2, hr, h.ne⟩
theorem Wk.below {w : World} {g n kb sb side : Nat} {c : Nat → Int} {W W' : World} (h : Wk w g n kb sb side c W) (hb : Below W.heap.size W W') : Wk w g n kb sb side c W' :=
  h.to (Fr.of_below hb (fun k hk _ => hk)) (h.row.fr (Fr.of_below (S := fun k => k < W.heap.size) hb (fun k _ h => h)) h.row.lt)
theorem Wk.congr {w : World} {g n kb sb side : Nat} {c d : Nat → Int} {W : World} (h : Wk w g n kb sb side c W) (e : ∀ j, j < n → c j = d j) : Wk w g n kb sb side d W := ⟨h.fr, h.k, h.s, h.row.congr e, h.ne⟩
theorem Wk.drew {w : World} {g n kb sb side : Nat} {c : Nat → Int} {W : World} (h : Wk w g n kb sb side c W) : Wk w g n kb sb side c W.drew := h.below ((Below.refl _ _).drew)
theorem Wk.drewN {w : World} {g n kb sb side : Nat} {c : Nat → Int} {W : World} (h : Wk w g n kb sb side c W) (m : Nat) : Wk w g n kb sb side c (W.drewN m) := h.below (below_dn (Below.refl _ _) m)
/-- A row of which a front is done. -/
def pt (a b : Nat → Nat) (i k : Nat) : Int := if k < i then (a k : Int) else (b k : Int)
theorem pt_lo {a b : Nat → Nat} {i k : Nat} (h : k < i) : pt a b i k = (a k : Int) := if_pos h
theorem pt_hi {a b : Nat → Nat} {i k : Nat} (h : ¬ k < i) : pt a b i k = (b k : Int) := if_neg h
theorem pt_set {a b : Nat → Nat} {i : Nat} {x : Int} (h : x = (a i : Int)) (k : Nat) : upd (pt a b i) i x k = pt a b (i + 1) k := by
  unfold upd pt
  by_cases h1 : k = i
  · subst h1; rw [if_pos rfl, if_pos (by omega), h]
  · rw [if_neg h1]
    by_cases h2 : k < i
    · rw [if_pos h2, if_pos (by omega)]
    · rw [if_neg h2, if_neg (by omega)]
theorem pt_skip {a b : Nat → Nat} {i : Nat} (h : a i = b i) (k : Nat) : pt a b i k = pt a b (i + 1) k := by
  unfold pt
  by_cases h1 : k = i
  · subst h1; rw [if_neg (by omega), if_pos (by omega), h]
  · by_cases h2 : k < i
    · rw [if_pos h2, if_pos (by omega)]
    · rw [if_neg h2, if_neg (by omega)]

theorem box_two (w : World) (u : Value) (o : Obj) (t : TypeId) : ((w.alloc o).alloc (.cells #[u] t)).cell? ⟨w.heap.size + 1, 0, none⟩ = some u := by
  have := (cell_new (w.alloc o) u t).1
  rwa [World.size_alloc] at this

set_option maxRecDepth 1000000 in
set_option maxHeartbeats 4000000 in
theorem settled_any (g n side : Nat) (l : Nat → Nat) (w : World) (hn : n ≤ 4194304) (hl : ∀ j, j < n → l j ≤ 17) (hR : Rw w g (fun j => (l j : Int)) n) :
    Calls Try.prog 60 #[.slice (some ⟨g, 0, none⟩) n n, .int .i64 (side : Int)] w fun e w' => (∃ v, e = .returned v) ∧ Fr (fun k => k ≠ g) w w' ∧ Rw w' g (fun k => (B.v8 side n l k : Int)) n := by
  have hgl := hR.lt
  have ST : Hid (∀ W, Fr (fun _ => True) w W → W.cell? ⟨w.heap.size, 0, none⟩ = some (.slice (some ⟨g, 0, none⟩) n n) → W.cell? ⟨w.heap.size + 1, 0, none⟩ = some (.int .i64 (side : Int)) → Calls Try.prog 81 #[.slice (some ⟨g, 0, none⟩) n n, .func (.func 84) #[] #[], .func (.func 85) #[] #[.pointer (some ⟨w.heap.size + 1, 0, none⟩), .pointer (some ⟨w.heap.size, 0, none⟩)]] W fun e w' => (∃ v, e = .returned v) ∧ Fr (fun k => k ≠ g) W w' ∧ Rw w' g (fun k => (B.v8 side n l k : Int)) n) := Lib.hid (fun W hW hk hs => by
    refine stretches_any 84 85 #[.pointer (some ⟨w.heap.size + 1, 0, none⟩), .pointer (some ⟨w.heap.size, 0, none⟩)] g n l B.neu (B.F8 side n l) (fun A => A.cell? ⟨w.heap.size, 0, none⟩ = some (.slice (some ⟨g, 0, none⟩) n n) ∧ A.cell? ⟨w.heap.size + 1, 0, none⟩ = some (.int .i64 (side : Int))) W hn (Nat.lt_of_lt_of_le hgl hW.size) ?_ ⟨hk, hs⟩ (hR.fr hW trivial) enters_neu enters_f8 ?_ ?_
    · intro A A' hf _ h
      exact ⟨hf.cell h.1 (show w.heap.size ≠ g by omega), hf.cell h.2 (show w.heap.size + 1 ≠ g by omega)⟩
    · intro k W hk
      exact neutral_any (l k) W (hl k hk)
    · intro cur W i j hij hjn hC hRw h1 h2
      exact f8_any (w.heap.size + 1) w.heap.size g n i j side l cur W hn hij hjn hC.2 hC.1 hRw h1 h2)
  clear hR hl
  go_enter Try.func60, Try.ntmps60
  go_wp2_with (go_at_call 81; (with_reducible refine (ST.out _ (((Fr.refl _ _).alloc _).alloc _) (cell_new2 _ _ _ _ 0 _ rfl) (box_two _ _ _ _)).mono ?_); rintro e w2 ⟨⟨v, rfl⟩, hf2, hr2⟩)
  go_end0
  exact ⟨⟨_, rfl⟩, (((Fr.refl _ _).alloc _).alloc _).trans hf2, hr2⟩

/-! The rows between the loops do not change what stands ahead. -/
theorem ahd_congr (S : Nat → Bool) (side : Nat) (a b : Nat → Nat) : ∀ i, (∀ j, j < i → S (a j) = S (b j) ∧ (S (b j) = true → a j = b j)) → B.ahd S a side i = B.ahd S b side i := by
  intro i
  induction i with
  | zero => intro _; rfl
  | succ i ih =>
    intro h
    unfold B.ahd
    rw [ih (fun j hj => h j (by omega)), (h i (Nat.lt_succ_self i)).1]
    by_cases hs : B.S3 0 = true ∨ S (b i) = true
    · by_cases h1 : S (b i) = true
      · rw [if_pos h1, if_pos h1, (h i (Nat.lt_succ_self i)).2 h1]
      · rw [if_neg h1, if_neg h1]
    · rw [if_neg (fun h => hs (.inr h)), if_neg (fun h => hs (.inr h))]
theorem ahd_v7 (side : Nat) (l : Nat → Nat) : ∀ i, B.ahd B.S2 (B.v7 side l) side i = B.ahd B.S2 l side i := by
  intro i
  induction i with
  | zero => rfl
  | succ i ih =>
    show (if B.S2 (B.v7 side l i) = true then B.v7 side l i else B.ahd B.S2 (B.v7 side l) side i) = (if B.S2 (l i) = true then l i else B.ahd B.S2 l side i)
    rw [ih]
    unfold B.v7
    by_cases h : l i = 4 ∧ B.ahd B.S2 l side i = 17
    · rw [if_pos h, if_pos (by rfl), if_neg (by rw [h.1]; decide), h.2]
    · rw [if_neg h]
theorem ahd_ext (S : Nat → Bool) (side : Nat) (a b : Nat → Nat) (i : Nat) (h : ∀ j, j < i → a j = b j) : B.ahd S a side i = B.ahd S b side i :=
  ahd_congr S side a b i (fun j hj => by rw [h j hj]; exact ⟨rfl, fun _ => rfl⟩)
theorem ahd_v2 (side : Nat) (l : Nat → Nat) (i : Nat) : B.ahd B.S3 (B.v2 side l) side i = B.ahd B.S3 l side i :=
  ahd_congr B.S3 side _ _ i (fun j _ => by
    unfold B.v2
    by_cases h : l j = 4 ∧ B.ahd B.S3 l side j = 14
    · rw [if_pos h, h.1]; exact ⟨rfl, fun h => by cases h⟩
    · rw [if_neg h]; exact ⟨rfl, fun _ => rfl⟩)

/-- The rows of classes that 'ahead' is asked for. -/
def of3 (k : Nat) : Int := if k = 0 then 17 else if k = 1 then 15 else 14
def of2 (k : Nat) : Int := if k = 0 then 17 else 15
theorem has3 (x : Nat) : hasI of3 (x : Int) 3 = B.S3 x := by
  by_cases h : x = 17 ∨ x = 15 ∨ x = 14
  · rcases h with h | h | h <;> subst h <;> decide
  · rw [hasI_no (fun k hk => by unfold of3; split <;> (try split) <;> omega)]
    unfold B.S3; simp; omega
theorem has2 (x : Nat) : hasI of2 (x : Int) 2 = B.S2 x := by
  by_cases h : x = 17 ∨ x = 15
  · rcases h with h | h <;> subst h <;> decide
  · rw [hasI_no (fun k hk => by unfold of2; split <;> omega)]
    unfold B.S2; simp; omega
theorem rd_of3 (W : World) : Rd (W.alloc (.cells #[.int .i64 17, .int .i64 15, .int .i64 14] 3)) (.slice (some ⟨W.heap.size, 0, none⟩) 3 3) of3 3 :=
  Rw.rd ⟨_, World.alloc_heap_new W _, by simp, fun j hj => by
    match j, hj with
    | 0, _ => rfl
    | 1, _ => rfl
    | 2, _ => rfl⟩ 3 (Nat.le_refl _)
theorem rd_of2 (W : World) : Rd (W.alloc (.cells #[.int .i64 17, .int .i64 15] 3)) (.slice (some ⟨W.heap.size, 0, none⟩) 2 2) of2 2 :=
  Rw.rd ⟨_, World.alloc_heap_new W _, by simp, fun j hj => by
    match j, hj with
    | 0, _ => rfl
    | 1, _ => rfl⟩ 2 (Nat.le_refl _)
theorem ahead_wk {w W : World} {g n kb sb side m : Nat} {c : Nat → Int} {a : Nat → Nat} (S : Nat → Bool) (ofs : Nat → Int) (h : Wk w g n kb sb side c W) (hc : ∀ j, j < n → c j = (a j : Int)) (hn : n ≤ 4194304) (hm : m ≤ 4194304) (o : Obj) (ov : Value) (hO : Rd (W.alloc o) ov ofs m) (hS : ∀ x : Nat, hasI ofs (x : Int) m = S x) (i : Nat) (hi : i ≤ n) :
    Calls Try.prog 79 #[.int .i64 (i : Int), ov, .pointer (some ⟨kb, 0, none⟩), .pointer (some ⟨sb, 0, none⟩)] (W.alloc o) fun e w' => e = .returned (.int .i64 (B.ahd S a side i : Int)) ∧ W.alloc o = w' := by
  have h2 := h.below ((Below.refl _ _).alloc (Nat.le_refl _) o)
  exact ahead_any kb sb g n m i side ov a ofs S (W.alloc o) hn hi hm h2.k h2.s (h2.row.congr hc) hO (fun j _ => hS _)
/-- A front done, as one row. -/
def pn (a b : Nat → Nat) (i k : Nat) : Nat := if k < i then a k else b k
theorem pt_pn (a b : Nat → Nat) (i k : Nat) : pt a b i k = (pn a b i k : Int) := by unfold pt pn; split <;> rfl
theorem pn_lo {a b : Nat → Nat} {i k : Nat} (h : k < i) : pn a b i k = a k := if_pos h
end Go.Proofs.Ytclblidfamabdaa
