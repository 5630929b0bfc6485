/- The law of orders: each place once. -/
import Derived.Test.YtclblidfamabdaaBdHe
import Derived.Test.YtclblidfamabdaaBdPe
set_option linter.unusedVariables false
set_option linter.unusedSimpArgs false
namespace Go.Proofs.Ytclblidfamabdaa
open Go.RowKit Go.Shelf Go.Lib Go.BigFrame
attribute [local go_sem] Oper.semAt_some

set_option maxRecDepth 1000000 in
set_option maxHeartbeats 4000000 in
theorem bidiPermutes_walk (v : Value) (n : Nat) (zs : Nat → Int) (w : World) (hn : n ≤ 2097152) (hR : Rd w v zs n) :
    Calls Try.prog 8 #[v] w fun e w' => e = .returned (.bool true) ∧ Below w.heap.size w w' := by
  obtain ⟨i0, hi, hz0, hz1, hz2⟩ := info_parts Try.infoIn
  have hmk : ∀ W : World, (Instr.makeSlice 29 (.int .i64 (n : Int)) (.int .i64 (n : Int))).run Try.prog W = .ok (.slice (some ⟨W.heap.size, 0, none⟩) n n) (W.alloc (.cells (madeCells (Value.int .i64 0).cells n) 3)) := fun W => by
    have h := run_make (P := Try.prog) W 29 3 i0 _ Try.underlying29 hi hz0 .i64 .i64 (n : Int) (n : Int) (by omega) (by omega) (by rw [hz2]; omega) (by omega)
    rw [h, hz1, Int.toNat_natCast, Nat.mul_one]
  have HMR : Hid (∀ W : World, Rw (W.alloc (.cells (madeCells (Value.int .i64 0).cells n) 3)) W.heap.size (fun _ => 0) n) := Lib.hid (fun W => make_rw W n)
  obtain ⟨MC, hMC⟩ : ∃ M, madeCells (Value.int .i64 0).cells n = M := ⟨_, rfl⟩
  rw [hMC] at hmk HMR
  clear hMC
  have HRd := Lib.hid hR
  obtain ⟨A, ca, rfl, hca, hA⟩ := hR
  have HA := Lib.hid hA
  clear hA
  go_enter Try.func8, Try.ntmps8
  go_wp2
  go_loop [3] (fun iv => ∃ k : Nat, iv = .int .i64 (k : Int) ∧ k ≤ n ∧ ∀ j, j < k → 0 ≤ zs j ∧ zs j ≤ 255) (fun iv => n - (RowKit.intOf iv).toNat)
  case atStart => exact ⟨0, rfl, Nat.zero_le _, fun j h => absurd h (Nat.not_lt_zero _)⟩
  case round =>
    obtain ⟨k, rfl, hk, hall⟩ := hrel
    by_cases hlt : k < n
    · obtain ⟨g, o, rfl, hc⟩ := HA.out (by omega)
      have c0 := hc k hlt
      have HALL := Lib.hid hall
      obtain ⟨x, hx⟩ : ∃ x, zs k = x := ⟨_, rfl⟩
      rw [hx] at c0
      have HX := Lib.hid hx
      clear hc hall hx
      by_cases h0 : x < 0
      · go_wp2_with (go_at_call 16; (with_reducible refine (head_any _).mono ?_); rintro e w1 ⟨rfl, hb1⟩)
        go_ret
        exact ⟨rfl, hb1⟩
      · by_cases h1 : 255 < x
        · go_wp2_with (go_at_call 16; (with_reducible refine (head_any _).mono ?_); rintro e w1 ⟨rfl, hb1⟩)
          go_ret
          exact ⟨rfl, hb1⟩
        · go_wp2_with fail
          go_round
          case rel =>
            refine ⟨k + 1, by go_num, hlt, fun j hj => ?_⟩
            rcases Nat.lt_or_ge j k with h | h
            · exact HALL.out j h
            · obtain rfl : j = k := by omega
              rw [HX.out]; omega
          case measure => simp [RowKit.intOf]; omega
    · obtain rfl : n = k := by omega
      obtain ⟨lv, hlv⟩ : ∃ f : Nat → Nat, f = fun j => (zs j).toNat := ⟨_, rfl⟩
      have hzl : ∀ j, j < n → zs j = (lv j : Int) := fun j hj => by rw [hlv]; have := hall j hj; show zs j = (((zs j).toNat : Nat) : Int); omega
      have hle : ∀ j, j < n → lv j ≤ 67108864 := fun j hj => by have := hzl j hj; have := hall j hj; omega
      have hle2 : ∀ j, j < n → lv j ≤ 255 := fun j hj => by have := hzl j hj; have := hall j hj; omega
      have hRl : Rd w (.slice A n ca) (fun j => (lv j : Int)) n := HRd.out.congr hzl
      have OR := Lib.hid (order_any n lv _ w (by omega) hle hRl)
      obtain ⟨oinj, oad⟩ := ord_ok lv n
      obtain ⟨od, hod⟩ : ∃ f, B.ord lv n = f := ⟨_, rfl⟩
      rw [hod] at OR oinj oad
      have HO := Lib.hid (And.intro oinj oad)
      have HZ := Lib.hid (And.intro hzl (And.intro hle2 hRl))
      clear hlv hall hzl hle hle2 hRl hod oinj oad
      go_wp2_with (first
        | (go_at_call 23; (with_reducible refine OR.out.mono ?_); rintro e w1 ⟨rfl, hb1, hr1⟩)
        | fail)
      have hbA : Below w.heap.size w ((w1.alloc (.cells MC 3)).alloc (.cells MC 3)) := (hb1.alloc hb1.size _).alloc (by have := hb1.size; simp; omega) _
      have hgl := hr1.lt
      have hs0 : Rw ((w1.alloc (.cells MC 3)).alloc (.cells MC 3)) w1.heap.size (fun _ => 0) n := (HMR.out w1).alloc _
      have hp0 : Rw ((w1.alloc (.cells MC 3)).alloc (.cells MC 3)) (w1.heap.size + 1) (fun _ => 0) n := by
        have := HMR.out (w1.alloc (.cells MC 3))
        rwa [World.size_alloc] at this
      have hl0 : Rw ((w1.alloc (.cells MC 3)).alloc (.cells MC 3)) w.heap.size (fun j => (od j : Int)) n := (hr1.alloc _).alloc _
      obtain ⟨gs, hgs⟩ : ∃ g, w1.heap.size = g := ⟨_, rfl⟩
      obtain ⟨gl, hgl2⟩ : ∃ g, w.heap.size = g := ⟨_, rfl⟩
      have hzA : ((w1.alloc (.cells MC 3)).alloc (.cells MC 3)).heap.size = gs + 2 := by simp [hgs]
      obtain ⟨W2, hW2⟩ : ∃ W, (w1.alloc (.cells MC 3)).alloc (.cells MC 3) = W := ⟨_, rfl⟩
      rw [hW2] at hbA hs0 hp0 hl0 hzA ⊢
      rw [hgs] at hs0 hp0
      rw [hgl2] at hl0
      have hgn : gl < gs := by omega
      have H2 := Lib.hid (And.intro hbA (And.intro hs0 (And.intro hp0 (And.intro hl0 (And.intro hgl2 (And.intro hgs hzA))))))
      have hrl2 : Rd W2 (.slice A n ca) (fun j => (lv j : Int)) n := HZ.out.2.2.below hbA
      have HRL := Lib.hid hrl2
      rw [hgs, hgl2]
      clear hbA hs0 hp0 hl0 hzA hb1 hr1 hgl hW2 hrl2 hgs hgl2
      go_loopw [7] (fun iv wx => ∃ (k : Nat) (F G : Nat → Int), iv = .int .i64 (k : Int) ∧ k ≤ n ∧ Fr (fun j => j ≠ gs ∧ j ≠ gs + 1) W2 wx ∧ Rw wx gs F n ∧ Rw wx (gs + 1) G n ∧ (∀ j, j < k → G (od j) = (j : Int)) ∧ ∀ x, x < n → (∀ j, j < k → od j ≠ x) → F x = 0) (fun iv _ => n - (RowKit.intOf iv).toNat)
      case atStart => exact ⟨0, _, _, rfl, Nat.zero_le _, Fr.refl _ _, H2.out.2.1, H2.out.2.2.1, fun j h => absurd h (Nat.not_lt_zero _), fun _ _ _ => rfl⟩
      case round =>
        obtain ⟨k, F, G, rfl, hk2, hF, hs, hp, hG, hFz⟩ := hrel
        have hrl := H2.out.2.2.2.1.fr hF ⟨by omega, by omega⟩
        by_cases hlt2 : k < n
        · have o0 := (hrl.at hlt2).1
          have hq := HO.out.1.1 k hlt2
          have hfz : F (od k) = 0 := hFz _ hq (fun j hj e => by have := HO.out.1.2 j k (by omega) hlt2 e; omega)
          obtain ⟨q, hqe⟩ : ∃ q, od k = q := ⟨_, rfl⟩
          rw [hqe] at o0 hq hfz
          obtain ⟨s0, sf⟩ := hs.at hq
          rw [hfz] at s0
          obtain ⟨p0', pf⟩ := hp.at hq
          obtain ⟨pv, p0⟩ : ∃ u, wr.cell? ⟨gs + 1, q, none⟩ = some u := ⟨_, p0'⟩
          have o1 : (wr.setCell ⟨gs, q, none⟩ (.int .i64 1)).cell? ⟨gl, k, none⟩ = some (.int .i64 (q : Int)) := (World.cell?_of_block (Below.heap_setCell _ _ _ _ (by show gl ≠ gs; omega))).trans o0
          have HX := Lib.hid (And.intro hqe (And.intro hF (And.intro hs (And.intro hp (And.intro hG hFz)))))
          clear hF hs hp hG hFz hrl hfz p0' hqe
          go_wp2_with fail
          go_roundw
          case rel =>
            obtain ⟨hqe, hF, hs, hp, hG, hFz⟩ := HX.out
            refine ⟨k + 1, _, _, by go_num, hlt2, (hF.setCell _ _ (fun _ h => h.1 rfl)).setCell _ _ (fun _ h => h.2 rfl), (hs.set q 1).other (by omega), (hp.other (by omega)).set q (k : Int), fun j hj => ?_, fun x hx hno => ?_⟩
            · unfold upd
              rcases Nat.lt_or_ge j k with h | h
              · rw [if_neg (fun e => by have := HO.out.1.2 j k (by omega) hlt2 (e.trans hqe.symm); omega)]
                exact hG j h
              · obtain rfl : j = k := by omega
                rw [if_pos hqe]
            · unfold upd
              rw [if_neg (fun e => hno k (by omega) (hqe.trans e.symm))]
              exact hFz x hx (fun j hj => hno j (by omega))
          case measure => simp [RowKit.intOf]; omega
        · obtain rfl : n = k := by omega
          obtain ⟨wo, hwo⟩ : ∃ x, x = wr := ⟨_, rfl⟩
          subst hwo
          have hbo : Below gl w wo := by
            have h1 := H2.out.1
            rw [H2.out.2.2.2.2.1] at h1
            exact h1.trans (hF.toBelow (fun k hk => ⟨by omega, by omega⟩) (by have := H2.out.2.2.2.2.2.2; omega))
          have hrd : Rd wo (.slice A n ca) (fun j => (lv j : Int)) n := by
            refine HZ.out.2.2.below ?_
            rw [H2.out.2.2.2.2.1]
            exact hbo
          have HP := Lib.hid (And.intro hp (And.intro hG (And.intro hbo hrd)))
          clear hF hs hp hG hFz hrl hbo hrd
          go_wp2_with fail
          go_loopw [8] (fun iv wx => ∃ (k q : Nat), iv = .int .i64 (k : Int) ∧ 1 ≤ k ∧ k ≤ n + 1 ∧ wx = wo.drewN q) (fun iv _ => n + 1 - (RowKit.intOf iv).toNat)
          case atStart => exact ⟨1, 0, rfl, Nat.le_refl _, by omega, rfl⟩
          case round =>
            obtain ⟨k, q, rfl, hk1, hkn, rfl⟩ := hrel
            by_cases hlt3 : k < n
            · obtain ⟨hp, hG, hbo, hrd⟩ := HP.out
              obtain ⟨_, _, ea, _, hcc⟩ := hrd
              cases ea
              obtain ⟨g, o, rfl, hc⟩ := hcc (by omega)
              obtain ⟨K, rfl⟩ : ∃ K, k = K + 1 := ⟨k - 1, by omega⟩
              have l1 : wo.cell? ⟨g, o + (K + 1), none⟩ = some (.int .i64 (lv (K + 1) : Int)) := hc (K + 1) hlt3
              have l0 : wo.cell? ⟨g, o + K, none⟩ = some (.int .i64 (lv K : Int)) := hc K (by omega)
              have p1 := (hp.at hlt3).1
              have p0 := (hp.at (show K < n by omega)).1
              have hAd : lv K = lv (K + 1) → G (K + 1) - G K = 1 - 2 * ((lv (K + 1) : Int) % 2) := fun e => by
                obtain ⟨a, b, ha, hb, h1, h2, h3⟩ := HO.out.2 K hlt3 e
                have g1 := hG a ha
                have g2 := hG b hb
                rw [h1] at g1
                rw [h2] at g2
                rw [g1, g2]
                by_cases hc : (lv K + 1 - 1) % 2 = 1
                · rw [if_pos hc] at h3; omega
                · rw [if_neg hc] at h3; omega
              have hGb : (0 ≤ G (K + 1) ∧ G (K + 1) ≤ 4194304) ∨ lv K ≠ lv (K + 1) := by
                by_cases e : lv K = lv (K + 1)
                · obtain ⟨a, b, ha, hb, h1, h2, h3⟩ := HO.out.2 K hlt3 e
                  have g2 := hG b hb
                  rw [h2] at g2
                  rw [g2]
                  exact .inl ⟨by omega, by omega⟩
                · exact .inr e
              have hx255 := HZ.out.2.1 (K + 1) hlt3
              obtain ⟨x, hx⟩ : ∃ x, lv (K + 1) = x := ⟨_, rfl⟩
              obtain ⟨y, hy⟩ : ∃ y, lv K = y := ⟨_, rfl⟩
              obtain ⟨P1, hP1⟩ : ∃ y, G (K + 1) = y := ⟨_, rfl⟩
              obtain ⟨P0, hP0⟩ : ∃ y, G K = y := ⟨_, rfl⟩
              rw [hx, hy, hP1, hP0] at hAd
              rw [hx, hy, hP1] at hGb
              rw [hx] at l1 hx255
              rw [hy] at l0
              rw [hP1] at p1
              rw [hP0] at p0
              have hk1' : ((K + 1 : Nat) : Int) - 1 = (K : Int) := by omega
              clear hx hy hP1 hP0 hc hcc hp hG hbo hk1
              by_cases hxy : y = x
              · subst hxy
                have hsu := hAd rfl
                have hgb : 0 ≤ P1 ∧ P1 ≤ 4194304 := hGb.resolve_right (fun h => h rfl)
                have hg0 : -1 ≤ P0 ∧ P0 ≤ 4194305 := by omega
                obtain ⟨hg1, hg2⟩ := hgb
                obtain ⟨hg3, hg4⟩ := hg0
                rcases (show (y : Int) % 2 = 1 ∨ (y : Int) % 2 = 0 by omega) with hod | hod
                · have hsub : P1 - P0 = -1 := by omega
                  clear hsu hAd hGb
                  go_wp2_with fail
                  go_quiet (fail)
                  go_wp2_with fail
                  go_roundw
                  case rel => exact ⟨K + 1 + 1, _, by go_num, by omega, by omega, by first | rfl | exact (World.drewN_drewN _ _ _)⟩
                  case measure => simp [RowKit.intOf]; omega
                · have hsub : P1 - P0 = 1 := by omega
                  clear hsu hAd hGb
                  go_wp2_with fail
                  go_quiet (fail)
                  go_wp2_with fail
                  go_roundw
                  case rel => exact ⟨K + 1 + 1, _, by go_num, by omega, by omega, by first | rfl | exact (World.drewN_drewN _ _ _)⟩
                  case measure => simp [RowKit.intOf]; omega
              · have hb : ((x : Int) == (y : Int)) = false := by simp; omega
                clear hAd hGb hxy
                go_wp2_with fail
                go_quiet (fail)
                go_wp2_with fail
                go_roundw
                case rel => exact ⟨K + 1 + 1, _, by go_num, by omega, by omega, by first | rfl | exact (World.drewN_drewN _ _ _)⟩
                case measure => simp [RowKit.intOf]; omega
            · have hbo := HP.out.2.2.1
              rw [← H2.out.2.2.2.2.1] at hbo
              have HB := Lib.hid hbo
              clear hbo
              go_wp2_with (go_at_call 16; (with_reducible refine (head_any _).mono ?_); rintro e w9 ⟨rfl, hb9⟩)
              go_ret
              exact ⟨rfl, bst (below_dn HB.out q) hb9⟩
theorem bidiPermutes_law (v : Value) (l : List Int) (w : World) (hl : l.length ≤ 1048576) (hr : ∀ x ∈ l, -9223372036854775808 ≤ x ∧ x ≤ 9223372036854775807) (hv : ArgI w v l) :
    Calls Try.prog 8 #[v] w fun e w' => e = .returned (.bool true) ∧ Below w.heap.size w w' :=
  bidiPermutes_walk v l.length _ w (by omega) hv.rd
end Go.Proofs.Ytclblidfamabdaa
