/- The document's Order. -/
import Derived.Test.YtclblidfamabdaaG9
import Derived.Test.YtclblidfamabdaaG1
set_option linter.unusedVariables false
set_option linter.unusedSimpArgs false
namespace Go.Proofs.Ytclblidfamabdaa
open Go.RowKit Go.Shelf Go.Lib Go.BigFrame
attribute [local go_sem] Oper.semAt_some

theorem row_ids {w : World} {b : Nat} {v : Value} {m : Nat} {f : Nat → Int} (h : w.ownsRow b 3 1 v m (ns f m)) : ∃ A c gl, v = .slice A m c ∧ m ≤ c ∧ (0 < m → A = some ⟨gl, 0, none⟩ ∧ Rw w gl f m) ∧ b ≤ gl := by
  obtain ⟨A, c, rfl, hc, hA⟩ := ownN_form h
  rcases Nat.eq_zero_or_pos m with h0 | h0
  · exact ⟨A, c, b, rfl, hc, fun h => absurd h (by omega), Nat.le_refl _⟩
  · obtain ⟨g, rfl⟩ := hA h0
    exact ⟨_, c, g, rfl, hc, fun _ => ⟨rfl, row_rw h⟩, (h.lt g rfl).1⟩

set_option maxRecDepth 1000000 in
set_option maxHeartbeats 8000000 in
theorem orderR_any (m : Nat) (lv : Nat → Nat) (v : Value) (w : World) (hm : m ≤ 4194304) (hlv : ∀ k, k < m → lv k ≤ 67108864) (hR : Rd w v (fun j => (lv j : Int)) m) :
    Calls Try.prog 24 #[v] w fun e w' => ∃ v', e = .returned v' ∧ Below w.heap.size w w' ∧ Rd w' v' (fun j => (B.ord lv m j : Int)) m := by
  obtain ⟨i0, hi, hz0, hz1, hz2⟩ := info_parts Try.infoIn
  obtain ⟨A, cap, rfl, hcap, hc⟩ := hR
  have HC := Lib.hid hc
  have HLV := Lib.hid hlv
  clear hc hlv
  have KF : Hid (∀ W, Below w.heap.size w W → 0 < m → ∃ g o, A = some ⟨g, o, none⟩ ∧ ∀ j, j < m → W.cell? ⟨g, o + j, none⟩ = some (.int .i64 (lv j : Int))) := Lib.hid (fun W hb h0 => by
    obtain ⟨g, o, e, h1⟩ := HC.out h0
    exact ⟨g, o, e, fun j hj => (World.cell?_of_block (hb.block _ (World.block_lt_of_cell? _ _ (h1 j hj)))).trans (h1 j hj)⟩)
  clear HC
  have hmost := most_bound lv 67108864 m HLV.out
  obtain ⟨X, hX⟩ : ∃ X, B.ord lv m = X := ⟨_, rfl⟩
  have HX : Hid (B.ordF lv m (B.most lv m) id = X) := Lib.hid hX
  rw [hX]
  clear hX
  go_enter Try.func24, Try.ntmps24
  go_wp2
  go_loopw [3, 4, 5] (fun ov mv iv wx => ∃ i : Nat, iv = .int .i64 (i : Int) ∧ i ≤ m ∧ mv = .int .i64 (B.most lv i : Int) ∧ Below w.heap.size w wx ∧ wx.ownsRow w.heap.size 3 1 ov i (ns (fun k => (k : Int)) i)) (fun _ _ iv _ => m - (RowKit.intOf iv).toNat)
  case atStart => exact ⟨0, rfl, Nat.zero_le _, rfl, Below.refl _ _, World.ownsRow_nil _ _ _ _⟩
  case round =>
    obtain ⟨i, rfl, him, rfl, hB, hrow⟩ := hrel
    have hBs := hB.size
    by_cases hlt : i < m
    · obtain ⟨M, hM⟩ : ∃ M, B.most lv i = M := ⟨_, rfl⟩
      obtain ⟨x, hx⟩ : ∃ x, lv i = x := ⟨_, rfl⟩
      obtain ⟨M2, hM2⟩ : ∃ M, B.most lv (i + 1) = M := ⟨_, rfl⟩
      have e1 : max (M : Int) (x : Int) = (M2 : Int) := by
        rw [← hM, ← hx, ← hM2]
        show _ = ((max (B.most lv i) (lv i) : Nat) : Int)
        omega
      obtain ⟨g, o, rfl, hcc⟩ := KF.out _ hB (by omega)
      have c0' : wr.cell? ⟨g, o + i, none⟩ = some (.int .i64 (x : Int)) := by rw [← hx]; exact hcc i hlt
      rw [hM]
      have KB : Hid (∀ w2 ob, (wr.alloc ob).grownBy w2 u3.ownBlock → Below w.heap.size w w2 ∧ w2.cell? ⟨g, o + i, none⟩ = some (.int .i64 (x : Int))) := Lib.hid (fun w2 ob hg => by
        have hb2 : Below w.heap.size w w2 := (hB.alloc hBs _).grown hg (by simp; omega) (fun q e => (hrow.lt q e).1)
        obtain ⟨g', o', e, h1⟩ := KF.out _ hb2 (by omega)
        cases e
        exact ⟨hb2, by rw [← hx]; exact h1 i hlt⟩)
      have HF := Lib.hid (And.intro hB hrow)
      have HM2 := Lib.hid hM2
      clear hB hrow hcc hM hx hM2 c0'
      go_wp2_with (at_builtin; (first | (go_must (refine wpList_append_own _ rfl _ _ 29 rfl w.heap.size 3 i0 _ 1 8 Try.underlying29 hi hz0 hz1 hz2 rfl (by decide) _ _ _ rfl (HF.out.2.alloc _) ⟨wr.heap.size, 0, none⟩ 1 1 [.int .i64 (i : Int)] rfl rfl (World.news_of_block (World.alloc_heap_new wr _)) (by simp [Value.oneCell']) (by unfold maxLen; omega) (by omega) (by simp; omega) ?_); intro v' w2 hown hg _; have c0 := (KB.out _ _ hg).2)))
      go_roundw
      case rel => exact ⟨i + 1, by go_num, hlt, by rw [HM2.out], (KB.out _ _ hg).1, by rw [ns_succ]; exact hown⟩
      case measure => simp [RowKit.intOf]; omega
    · obtain rfl : m = i := by omega
      obtain ⟨OA, oc, gl, rfl, hoc, hgl, hglw⟩ := row_ids hrow
      obtain ⟨wo, hwo⟩ : ∃ x, x = wr := ⟨_, rfl⟩
      subst hwo
      have HO := Lib.hid hgl
      have HB := Lib.hid hB
      have KB : Hid (∀ wx, Fr (fun k => k ≠ gl) wo wx → Below w.heap.size w wx) := Lib.hid (fun wx h => HB.out.trans (h.toBelow (fun k hk => by show k ≠ gl; omega) hBs))
      clear hB hrow hgl
      obtain ⟨M, hM⟩ : ∃ M, B.most lv m = M := ⟨_, rfl⟩
      rw [hM] at hmost HX ⊢
      clear hM
      go_wp2
      go_loopw [6] (fun nv wx => ∃ (e : Nat) (o : Nat → Nat), nv = .int .i64 (e : Int) ∧ e ≤ M ∧ (∀ k, k < m → o k < m) ∧ B.ordF lv m e o = X ∧ Fr (fun k => k ≠ gl) wo wx ∧ (0 < m → Rw wx gl (fun k => (o k : Int)) m)) (fun nv _ => (RowKit.intOf nv).toNat)
      case atStart => exact ⟨M, id, rfl, Nat.le_refl _, fun k h => h, HX.out, Fr.refl _ _, fun h => (HO.out h).2⟩
      case round =>
        clear HX
        obtain ⟨e, o, rfl, heM, hol, hX, hF, hRw⟩ := hrel
        by_cases he : 1 ≤ e
        · obtain ⟨E, rfl⟩ : ∃ E, e = E + 1 := ⟨e - 1, by omega⟩
          have HX : Hid (B.ordF lv m E (B.trn lv (E + 1) m o) = X) := Lib.hid hX
          have HOL := Lib.hid hol
          have H0 := Lib.hid (And.intro hF (fun h => (hRw h).congr (d := trI lv (E + 1) m o 0) (fun k _ => by unfold trI; rw [if_neg (Nat.not_lt_zero _)])))
          clear hX hol hF hRw he
          obtain ⟨e, hee⟩ : ∃ e, E + 1 = e := ⟨_, rfl⟩
          have HEi := Lib.hid (show (e : Int) = (E : Int) + 1 by omega)
          have he1 : 0 < e := by omega
          rw [hee] at HX H0 heM ⊢
          have HE := Lib.hid hee
          clear hee
          go_wp2
          go_loopw [7] (fun iv wx => ∃ i : Nat, iv = .int .i64 (i : Int) ∧ i ≤ m ∧ (i = 0 ∨ geP lv e (o (i - 1)) = false ∨ i = m ∨ geP lv e (o i) = false) ∧ Fr (fun k => k ≠ gl) wo wx ∧ (0 < m → Rw wx gl (trI lv e m o i) m)) (fun iv _ => m - (RowKit.intOf iv).toNat)
          case atStart => exact ⟨0, rfl, Nat.zero_le _, .inl rfl, H0.out⟩
          case round =>
            clear H0
            obtain ⟨i, rfl, him, hinv, hF, hRw0⟩ := hrel
            by_cases hlt : i < m
            · have hRw := hRw0 (by omega)
              have hOA := (HO.out (by omega)).1
              subst hOA
              have HF := Lib.hid (And.intro hF hRw)
              have HINV := Lib.hid hinv
              obtain ⟨g, oo, rfl, hcc⟩ := KF.out _ (KB.out _ hF) (by omega)
              have HCC := Lib.hid hcc
              have HRD : Hid (∀ k, i ≤ k → k < m → wr.cell? ⟨gl, k, none⟩ = some (.int .i64 (o k : Int))) := Lib.hid (fun k h1 h2 => by
                have := (hRw.at h2).1
                rwa [show trI lv e m o i k = (o k : Int) by unfold trI; rw [if_neg (by omega)]] at this)
              clear hF hRw hRw0 hinv hcc
              go_wp2
              go_loop [8] (fun jv => ∃ j : Nat, jv = .int .i64 (j : Int) ∧ i ≤ j ∧ j ≤ m ∧ ∀ q, i ≤ q → q < j → geP lv e (o q) = true) (fun jv => m - (RowKit.intOf jv).toNat)
              case atStart => exact ⟨i, rfl, Nat.le_refl _, him, fun q h1 h2 => by omega⟩
              case round =>
                obtain ⟨j, rfl, hij, hjm, hall⟩ := hrel
                by_cases hgo : j < m ∧ e ≤ lv (o j)
                · obtain ⟨hjl, hge⟩ := hgo
                  have o0 := HRD.out j hij hjl
                  have hol := HOL.out j hjl
                  obtain ⟨y, hy⟩ : ∃ y, o j = y := ⟨_, rfl⟩
                  have HY := Lib.hid hy
                  rw [hy] at o0 hol hge
                  have c0 := HCC.out y hol
                  obtain ⟨x, hx⟩ : ∃ x, lv y = x := ⟨_, rfl⟩
                  rw [hx] at c0 hge
                  have HP := Lib.hid (show geP lv e (o j) = true by rw [hy]; unfold geP; rw [hx]; exact decide_eq_true hge)
                  have HALL := Lib.hid hall
                  clear hy hx hall
                  go_wp2
                  go_round
                  case rel =>
                    refine ⟨j + 1, by go_num, by omega, by omega, fun q h1 h2 => ?_⟩
                    rcases Nat.lt_or_ge q j with h | h
                    · exact HALL.out q h1 h
                    · obtain rfl : q = j := by omega
                      exact HP.out
                  case measure => simp [RowKit.intOf]; omega
                · have hP : j < m → geP lv e (o j) = false := fun h => decide_eq_false (fun h2 => hgo ⟨h, h2⟩)
                  have hi2 : i < j → (i = 0 ∨ geP lv e (o (i - 1)) = false) := fun h => by
                    have := hall i (Nat.le_refl _) h
                    rcases HINV.out with h1 | h1 | h1 | h1
                    · exact .inl h1
                    · exact .inr h1
                    · omega
                    · rw [h1] at this; cases this
                  have HQ : Hid ((if i < j then j else i + 1) ≤ m ∧ ((if i < j then j else i + 1) = 0 ∨ geP lv e (o ((if i < j then j else i + 1) - 1)) = false ∨ (if i < j then j else i + 1) = m ∨ geP lv e (o (if i < j then j else i + 1)) = false) ∧ ∀ k, rvI (trI lv e m o i) i (j - i) (j - i) k = trI lv e m o (if i < j then j else i + 1) k) := Lib.hid (by
                    by_cases hij2 : i < j
                    · rw [if_pos hij2]
                      refine ⟨hjm, ?_, fun k => trI_turn lv e m o i j (hi2 hij2) hjm hij2 hall hP k⟩
                      rcases Nat.lt_or_ge j m with h | h
                      · exact .inr (.inr (.inr (hP h)))
                      · exact .inr (.inr (.inl (by omega)))
                    · rw [if_neg hij2]
                      obtain rfl : j = i := by omega
                      refine ⟨by omega, .inr (.inl (by rw [Nat.add_sub_cancel]; exact hP hlt)), fun k => ?_⟩
                      rw [← trI_skip lv e m o j (hP hlt) k]
                      unfold rvI; rw [if_neg (by omega)])
                  have HR0 := Lib.hid (HF.out.2.congr (fun x _ => (rvI_zero (trI lv e m o i) i (j - i) x).symm))
                  rcases Nat.lt_or_ge j m with hjl | hjl
                  · have o0 := HRD.out j hij hjl
                    have hol := HOL.out j hjl
                    have hge : ¬ e ≤ lv (o j) := fun h => hgo ⟨hjl, h⟩
                    obtain ⟨y, hy⟩ : ∃ y, o j = y := ⟨_, rfl⟩
                    rw [hy] at o0 hol hge
                    have c0 := HCC.out y hol
                    obtain ⟨x, hx⟩ : ∃ x, lv y = x := ⟨_, rfl⟩
                    rw [hx] at c0 hge
                    clear hy hx hall hP hi2 hgo
                    go_wp2
                    obtain ⟨wk, hwk⟩ : ∃ x, x = wr := ⟨_, rfl⟩
                    subst hwk
                    go_loopw [9, 10, 11] (fun av bv xv wx => ∃ (a : Nat) (J : Int), av = .int .i64 (a : Int) ∧ bv = .int .i64 J ∧ i ≤ a ∧ J = (j : Int) - 1 - ((a : Int) - (i : Int)) ∧ 2 * (a - i) ≤ j - i ∧ Fr (fun k => k ≠ gl) wk wx ∧ Rw wx gl (rvI (trI lv e m o i) i (j - i) (a - i)) m) (fun av _ _ _ => m - (RowKit.intOf av).toNat)
                    case atStart => exact ⟨i, (j : Int) - 1, rfl, rfl, Nat.le_refl _, by omega, by omega, Fr.refl _ _, by rw [Nat.sub_self]; exact HR0.out⟩
                    case round =>
                      obtain ⟨a, J, rfl, rfl, hia, hJ, hak, hFr, hRa⟩ := hrel
                      by_cases hlt2 : (a : Int) < J
                      · obtain ⟨z, rfl⟩ : ∃ z : Nat, J = (z : Int) := ⟨J.toNat, by omega⟩
                        have haz : a < z := by omega
                        have hzm : z < m := by omega
                        have ham : a < m := by omega
                        obtain ⟨c1, f1⟩ := hRa.at ham
                        obtain ⟨c2, f2⟩ := hRa.at hzm
                        obtain ⟨x1, hx1⟩ : ∃ x, rvI (trI lv e m o i) i (j - i) (a - i) a = x := ⟨_, rfl⟩
                        obtain ⟨x2, hx2⟩ : ∃ x, rvI (trI lv e m o i) i (j - i) (a - i) z = x := ⟨_, rfl⟩
                        rw [hx1] at c1
                        rw [hx2] at c2
                        have f3 : (wr.setCell ⟨gl, a, none⟩ (.int .i64 x2)).frozen? ⟨gl, z, none⟩ = false := ((hRa.set a x2).at hzm).2
                        obtain ⟨c3v, c3⟩ : ∃ u, (wr.setCell ⟨gl, a, none⟩ (.int .i64 x2)).cell? ⟨gl, z, none⟩ = some u := ⟨_, ((hRa.set a x2).at hzm).1⟩
                        have HS := Lib.hid (And.intro (hFr.setCell (v := .int .i64 x2) ⟨gl, a, none⟩ (fun _ h => h rfl)) (((hRa.set a x2).set z x1).congr (d := rvI (trI lv e m o i) i (j - i) (a + 1 - i)) (fun q _ => by
                          have := rvI_step (trI lv e m o i) i (j - i) (a - i) (z - i) (by omega) (by omega) q
                          rw [show i + (a - i) = a by omega, show i + (z - i) = z by omega, show a - i + 1 = a + 1 - i by omega, hx1, hx2] at this
                          exact this)))
                        have HJ := Lib.hid hJ
                        clear hFr hRa hx1 hx2 hJ hlt2
                        go_wp2
                        go_roundw
                        case rel => exact ⟨a + 1, (z : Int) - 1, by go_num, rfl, by omega, by have := HJ.out; omega, by have := HJ.out; omega, HS.out.1.setCell _ _ (fun _ h => h rfl), HS.out.2⟩
                        case measure => simp [RowKit.intOf]; omega
                      · have HS := Lib.hid (And.intro (HF.out.1.trans hFr) (hRa.congr (fun x _ => (rvI_end (trI lv e m o i) i (j - i) (a - i) (by omega) hak x).trans (HQ.out.2.2 x))))
                        have hJn : ¬ (a : Int) < J := hlt2
                        have HJ := Lib.hid hJ
                        clear hFr hRa hJ
                        by_cases hkj : i < j
                        · have e1 : ((j : Int) - 1) + 1 = (j : Int) := by omega
                          have HQ2 := HQ
                          rw [if_pos hkj] at HQ2 HS
                          go_wp2
                          go_roundw
                          case rel => exact ⟨j, by first | rfl | go_num | (rw [e1]), HQ2.out.1, HQ2.out.2.1, HS.out.1, fun _ => HS.out.2⟩
                          case measure => simp [RowKit.intOf]; omega
                        · have HQ2 := HQ
                          rw [if_neg hkj] at HQ2 HS
                          go_wp2
                          go_roundw
                          case rel => exact ⟨i + 1, by go_num, HQ2.out.1, HQ2.out.2.1, HS.out.1, fun _ => HS.out.2⟩
                          case measure => simp [RowKit.intOf]; omega
                  · have hjm2 := hjm
                    clear hall hP hi2 hgo
                    go_wp2
                    obtain ⟨wk, hwk⟩ : ∃ x, x = wr := ⟨_, rfl⟩
                    subst hwk
                    go_loopw [9, 10, 11] (fun av bv xv wx => ∃ (a : Nat) (J : Int), av = .int .i64 (a : Int) ∧ bv = .int .i64 J ∧ i ≤ a ∧ J = (j : Int) - 1 - ((a : Int) - (i : Int)) ∧ 2 * (a - i) ≤ j - i ∧ Fr (fun k => k ≠ gl) wk wx ∧ Rw wx gl (rvI (trI lv e m o i) i (j - i) (a - i)) m) (fun av _ _ _ => m - (RowKit.intOf av).toNat)
                    case atStart => exact ⟨i, (j : Int) - 1, rfl, rfl, Nat.le_refl _, by omega, by omega, Fr.refl _ _, by rw [Nat.sub_self]; exact HR0.out⟩
                    case round =>
                      obtain ⟨a, J, rfl, rfl, hia, hJ, hak, hFr, hRa⟩ := hrel
                      by_cases hlt2 : (a : Int) < J
                      · obtain ⟨z, rfl⟩ : ∃ z : Nat, J = (z : Int) := ⟨J.toNat, by omega⟩
                        have haz : a < z := by omega
                        have hzm : z < m := by omega
                        have ham : a < m := by omega
                        obtain ⟨c1, f1⟩ := hRa.at ham
                        obtain ⟨c2, f2⟩ := hRa.at hzm
                        obtain ⟨x1, hx1⟩ : ∃ x, rvI (trI lv e m o i) i (j - i) (a - i) a = x := ⟨_, rfl⟩
                        obtain ⟨x2, hx2⟩ : ∃ x, rvI (trI lv e m o i) i (j - i) (a - i) z = x := ⟨_, rfl⟩
                        rw [hx1] at c1
                        rw [hx2] at c2
                        have f3 : (wr.setCell ⟨gl, a, none⟩ (.int .i64 x2)).frozen? ⟨gl, z, none⟩ = false := ((hRa.set a x2).at hzm).2
                        obtain ⟨c3v, c3⟩ : ∃ u, (wr.setCell ⟨gl, a, none⟩ (.int .i64 x2)).cell? ⟨gl, z, none⟩ = some u := ⟨_, ((hRa.set a x2).at hzm).1⟩
                        have HS := Lib.hid (And.intro (hFr.setCell (v := .int .i64 x2) ⟨gl, a, none⟩ (fun _ h => h rfl)) (((hRa.set a x2).set z x1).congr (d := rvI (trI lv e m o i) i (j - i) (a + 1 - i)) (fun q _ => by
                          have := rvI_step (trI lv e m o i) i (j - i) (a - i) (z - i) (by omega) (by omega) q
                          rw [show i + (a - i) = a by omega, show i + (z - i) = z by omega, show a - i + 1 = a + 1 - i by omega, hx1, hx2] at this
                          exact this)))
                        have HJ := Lib.hid hJ
                        clear hFr hRa hx1 hx2 hJ hlt2
                        go_wp2
                        go_roundw
                        case rel => exact ⟨a + 1, (z : Int) - 1, by go_num, rfl, by omega, by have := HJ.out; omega, by have := HJ.out; omega, HS.out.1.setCell _ _ (fun _ h => h rfl), HS.out.2⟩
                        case measure => simp [RowKit.intOf]; omega
                      · have HS := Lib.hid (And.intro (HF.out.1.trans hFr) (hRa.congr (fun x _ => (rvI_end (trI lv e m o i) i (j - i) (a - i) (by omega) hak x).trans (HQ.out.2.2 x))))
                        have hJn : ¬ (a : Int) < J := hlt2
                        have HJ := Lib.hid hJ
                        clear hFr hRa hJ
                        by_cases hkj : i < j
                        · have e1 : ((j : Int) - 1) + 1 = (j : Int) := by omega
                          have HQ2 := HQ
                          rw [if_pos hkj] at HQ2 HS
                          go_wp2
                          go_roundw
                          case rel => exact ⟨j, by first | rfl | go_num | (rw [e1]), HQ2.out.1, HQ2.out.2.1, HS.out.1, fun _ => HS.out.2⟩
                          case measure => simp [RowKit.intOf]; omega
                        · have HQ2 := HQ
                          rw [if_neg hkj] at HQ2 HS
                          go_wp2
                          go_roundw
                          case rel => exact ⟨i + 1, by go_num, HQ2.out.1, HQ2.out.2.1, HS.out.1, fun _ => HS.out.2⟩
                          case measure => simp [RowKit.intOf]; omega
            · obtain rfl : m = i := by omega
              have HF := Lib.hid (And.intro hF (fun h => (hRw0 h).congr (d := fun k => (B.trn lv e m o k : Int)) (fun k hk => by unfold trI; rw [if_pos hk])))
              clear hF hRw0 hinv
              go_wp2
              go_roundw
              case rel => exact ⟨E, B.trn lv e m o, by rw [HEi.out]; go_num, by have := HEi.out; omega, fun k hk => B.trn_lt lv e m o HOL.out k hk, HX.out, HF.out.1, HF.out.2⟩
              case measure => simp [RowKit.intOf]; omega
        · obtain rfl : e = 0 := by omega
          have HF := Lib.hid (And.intro hF (fun h => (hRw h).congr (d := fun k => (X k : Int)) (fun k _ => by rw [← hX]; rfl)))
          clear hF hRw hX hol
          go_wp2
          go_ret
          refine ⟨_, rfl, KB.out _ HF.out.1, OA, oc, rfl, hoc, fun h => ?_⟩
          obtain ⟨e1, _⟩ := HO.out h
          exact ⟨gl, 0, e1, fun j hj => by rw [Nat.zero_add]; exact ((HF.out.2 h).at hj).1⟩
end Go.Proofs.Ytclblidfamabdaa

/- The document's tables of classes. -/
set_option linter.unusedVariables false
set_option linter.unusedSimpArgs false
namespace Go.Proofs.Ytclblidfamabdaa
open Go.RowKit Go.Shelf Go.Lib Go.BigFrame
attribute [local go_sem] Oper.semAt_some

/-- Ranges, written one behind the other. -/
def flR (l : List (Int × Int)) : List Int := l.flatMap fun p => [p.1, p.2]
def lI (l : List Int) (j : Nat) : Int := l.getD j 0
theorem rd_new (W : World) (L : List Int) (n : Nat) (cs : Array Value) (h : cs = (L.map (Value.int .i64)).toArray) (hn : n = L.length) : Rd (W.alloc (.cells cs 3)) (.slice (some ⟨W.heap.size, 0, none⟩) n n) (lI L) n := by
  subst h hn
  refine ⟨_, _, rfl, Nat.le_refl _, fun _ => ⟨_, 0, rfl, fun j hj => ?_⟩⟩
  have hh := World.alloc_heap_new W (.cells (L.map (Value.int .i64)).toArray 3)
  rw [Nat.zero_add]
  have e : (L.map (Value.int .i64)).toArray[j]? = some (.int .i64 (lI L j)) := by
    unfold lI
    rw [List.getElem?_toArray, List.getElem?_map, List.getD_eq_getElem?_getD, List.getElem?_eq_getElem hj]
    rfl
  simp only [World.cell?, hh, e]
  rfl
theorem letters_13 (w : World) : Calls Try.prog 58 #[.int .i64 13] w fun e w' => ∃ v, e = .returned v ∧ Below w.heap.size w w' ∧ Rd w' v (lI (flR (B.rgs 13))) 36 := by
  go_enter Try.func58, Try.ntmps58
  go_wp2
  go_ret
  exact ⟨_, rfl, (Below.refl _ _).alloc (Nat.le_refl _) _, rd_new w _ _ _ rfl rfl⟩
theorem letters_14 (w : World) : Calls Try.prog 58 #[.int .i64 14] w fun e w' => ∃ v, e = .returned v ∧ Below w.heap.size w w' ∧ Rd w' v (lI (flR (B.rgs 14))) 8 := by
  go_enter Try.func58, Try.ntmps58
  go_wp2
  go_ret
  exact ⟨_, rfl, (Below.refl _ _).alloc (Nat.le_refl _) _, rd_new w _ _ _ rfl rfl⟩
theorem letters_15 (w : World) : Calls Try.prog 58 #[.int .i64 15] w fun e w' => ∃ v, e = .returned v ∧ Below w.heap.size w w' ∧ Rd w' v (lI (flR (B.rgs 15))) 12 := by
  go_enter Try.func58, Try.ntmps58
  go_wp2
  go_ret
  exact ⟨_, rfl, (Below.refl _ _).alloc (Nat.le_refl _) _, rd_new w _ _ _ rfl rfl⟩
section
variable {P : Program} {w : World}
theorem append_known4 {ops : Array Oper} {rest : List Oper} {o : Oper} {a : Act} {Q : Exit → Act → World → Prop} {R : Value → World → Prop} (hgd : o.guard = none) (s x : Operand) (t : TypeId)
    (ho : o.op = .call { callee := .builtin .append, args := #[s, x], argTypes := #[t, t] }) (v xv : Value) (hs : a.eval s = v) (hx : a.eval x = xv)
    (hr : ∃ v' w', (Builtin.append_ #[t, t] o.type #[v, xv]).run P w = .ok v' w' ∧ R v' w') (h : ∀ v' w', R v' w' → wpList P ops Q rest (a.put o.dst v') w') : wpList P ops Q (o :: rest) a w := by
  refine wpList_plain hgd fun K hK' => ?_
  obtain ⟨v', w', hrun, r1⟩ := hr
  unfold Oper.wp
  simp [execOp, ho, resolve, invoke, builtin, hs, hx, hrun, Result.andThen]
  exact hK' _ _ (h _ _ r1)
end
theorem news_lit (W : World) (L : List Int) (cs : Array Value) (h : cs = (L.map (Value.int .i64)).toArray) : ∀ (j : Nat) (u : Value), (L.map (Value.int .i64))[j]? = some u → (W.alloc (.cells cs 3)).cell? ((⟨W.heap.size, 0, none⟩ : Addr).add j) = some u := fun j u hu => by
  subst h
  have hh := World.alloc_heap_new W (.cells (L.map (Value.int .i64)).toArray 3)
  rw [Go.WideShapes.add_plain, Nat.zero_add]
  simp only [World.cell?, hh]
  rw [List.getElem?_toArray, hu]
  rfl
def l16a : List Int := [0, 8, 14, 27, 33, 34, 38, 42, 59, 64, 91, 96, 123, 132, 134, 159, 161, 161, 166, 169, 171, 175, 180, 180, 182, 184, 187, 191, 215, 215, 247, 247, 8203, 8205, 8208, 8231, 8234, 8238, 8245, 8286]
def l16b : List Int := [8288, 8293, 8298, 8303, 8316, 8318, 8332, 8334, 8592, 8721, 8723, 11263, 12289, 12292, 12296, 12320, 12336, 12336, 65279, 65279, 65281, 65282, 65286, 65290, 65307, 65312, 65339, 65344, 65371, 65381, 65529, 65533]
theorem rd_row {w : World} {b n : Nat} {v : Value} (L : List Int) (h : w.ownsRow b 3 1 v n (L.map (Value.int .i64))) (hn : L.length = n) : Rd w v (lI L) n := by
  refine row_rd (base := b) (c := lI L) ?_
  rwa [show ns (lI L) n = L.map (Value.int .i64) by
    apply List.ext_getElem?
    intro j
    by_cases hj : j < n
    · rw [ns_at _ hj, List.getElem?_map, List.getElem?_eq_getElem (by omega)]
      unfold lI
      rw [List.getD_eq_getElem?_getD, List.getElem?_eq_getElem (by omega)]
      rfl
    · rw [List.getElem?_eq_none (by rw [ns_length]; omega), List.getElem?_eq_none (by rw [List.length_map]; omega)]]
theorem letters_16 (w : World) : Calls Try.prog 58 #[.int .i64 16] w fun e w' => ∃ v, e = .returned v ∧ Below w.heap.size w w' ∧ Rd w' v (lI (flR (B.rgs 16))) 72 := by
  obtain ⟨i0, hi, hz0, hz1, hz2⟩ := info_parts Try.infoIn
  have AP : Hid (∀ W : World, ∃ v' w', (Builtin.append_ #[29, 29] 29 #[.slice (some ⟨W.heap.size, 0, none⟩) 40 40, .slice (some ⟨W.heap.size + 1, 0, none⟩) 32 32]).run Try.prog ((W.alloc (.cells (l16a.map (Value.int .i64)).toArray 3)).alloc (.cells (l16b.map (Value.int .i64)).toArray 3)) = .ok v' w' ∧ (Below W.heap.size W w' ∧ Rd w' v' (lI (flR (B.rgs 16))) 72)) := Lib.hid (fun W => by
    have n1 := news_lit W l16a _ rfl
    have n2 := news_lit (W.alloc (.cells (l16a.map (Value.int .i64)).toArray 3)) l16b _ rfl
    rw [World.size_alloc] at n2
    obtain ⟨v', w', hr, hrow, hg⟩ := run_append_arg_grows (P := Try.prog) ((W.alloc (.cells (l16a.map (Value.int .i64)).toArray 3)).alloc (.cells (l16b.map (Value.int .i64)).toArray 3)) 29 29 3 i0 (.int .i64 0) 1 8 Try.underlying29 hi hz0 hz1 hz2 rfl (by omega) ⟨W.heap.size, 0, none⟩ 40 40 (l16a.map (Value.int .i64)) rfl (fun j u hu => (World.cell?_of_block (Below.heap_alloc _ _ _ (by rw [Go.WideShapes.add_plain]; simp))).trans (n1 j u hu)) ⟨W.heap.size + 1, 0, none⟩ 32 32 (l16b.map (Value.int .i64)) rfl n2 (by omega) (by simp only [maxLen]; omega) (by omega)
    rw [← List.map_append] at hrow
    refine ⟨v', w', hr, ?_, ?_⟩
    · exact (((Below.refl _ _).alloc (Nat.le_refl _) _).alloc (by simp) _).trans ⟨hg.os, hg.tape, hg.output, hg.size, fun k hk => hg.block k (by simp; omega) (by simp)⟩
    · have e : flR (B.rgs 16) = l16a ++ l16b := by decide +kernel
      rw [e]
      exact rd_row _ hrow rfl)
  have e1 : (l16a.map (Value.int .i64)).toArray = #[.int .i64 0, .int .i64 8, .int .i64 14, .int .i64 27, .int .i64 33, .int .i64 34, .int .i64 38, .int .i64 42, .int .i64 59, .int .i64 64, .int .i64 91, .int .i64 96, .int .i64 123, .int .i64 132, .int .i64 134, .int .i64 159, .int .i64 161, .int .i64 161, .int .i64 166, .int .i64 169, .int .i64 171, .int .i64 175, .int .i64 180, .int .i64 180, .int .i64 182, .int .i64 184, .int .i64 187, .int .i64 191, .int .i64 215, .int .i64 215, .int .i64 247, .int .i64 247, .int .i64 8203, .int .i64 8205, .int .i64 8208, .int .i64 8231, .int .i64 8234, .int .i64 8238, .int .i64 8245, .int .i64 8286] := rfl
  have e2 : (l16b.map (Value.int .i64)).toArray = #[.int .i64 8288, .int .i64 8293, .int .i64 8298, .int .i64 8303, .int .i64 8316, .int .i64 8318, .int .i64 8332, .int .i64 8334, .int .i64 8592, .int .i64 8721, .int .i64 8723, .int .i64 11263, .int .i64 12289, .int .i64 12292, .int .i64 12296, .int .i64 12320, .int .i64 12336, .int .i64 12336, .int .i64 65279, .int .i64 65279, .int .i64 65281, .int .i64 65282, .int .i64 65286, .int .i64 65290, .int .i64 65307, .int .i64 65312, .int .i64 65339, .int .i64 65344, .int .i64 65371, .int .i64 65381, .int .i64 65529, .int .i64 65533] := rfl
  have HE := Lib.hid (And.intro e1 e2)
  rw [e1, e2] at AP
  clear e1 e2
  go_enter Try.func58, Try.ntmps58
  go_wp2_with (at_builtin; go_must (refine append_known4 (R := fun v' w' => Below w.heap.size w w' ∧ Rd w' v' (lI (flR (B.rgs 16))) 72) rfl _ _ 29 rfl _ _ rfl rfl (AP.out w) ?_); rintro v' w' ⟨hb, hr⟩)
  go_ret
  exact ⟨_, rfl, hb, hr⟩
theorem ranges_1 (w : World) : Calls Try.prog 29 #[.int .i64 1] w fun e w' => ∃ v, e = .returned v ∧ Below w.heap.size w w' ∧ Rd w' v (lI (flR (B.rgs 1))) 2 := by
  go_enter Try.func29, Try.ntmps29
  go_wp2
  go_ret
  exact ⟨_, rfl, (Below.refl _ _).alloc (Nat.le_refl _) _, rd_new w _ _ _ rfl rfl⟩
theorem ranges_2 (w : World) : Calls Try.prog 29 #[.int .i64 2] w fun e w' => ∃ v, e = .returned v ∧ Below w.heap.size w w' ∧ Rd w' v (lI (flR (B.rgs 2))) 12 := by
  go_enter Try.func29, Try.ntmps29
  go_wp2
  go_ret
  exact ⟨_, rfl, (Below.refl _ _).alloc (Nat.le_refl _) _, rd_new w _ _ _ rfl rfl⟩
theorem ranges_3 (w : World) : Calls Try.prog 29 #[.int .i64 3] w fun e w' => ∃ v, e = .returned v ∧ Below w.heap.size w w' ∧ Rd w' v (lI (flR (B.rgs 3))) 14 := by
  go_enter Try.func29, Try.ntmps29
  go_wp2
  go_ret
  exact ⟨_, rfl, (Below.refl _ _).alloc (Nat.le_refl _) _, rd_new w _ _ _ rfl rfl⟩
theorem ranges_4 (w : World) : Calls Try.prog 29 #[.int .i64 4] w fun e w' => ∃ v, e = .returned v ∧ Below w.heap.size w w' ∧ Rd w' v (lI (flR (B.rgs 4))) 16 := by
  go_enter Try.func29, Try.ntmps29
  go_wp2
  go_ret
  exact ⟨_, rfl, (Below.refl _ _).alloc (Nat.le_refl _) _, rd_new w _ _ _ rfl rfl⟩
theorem ranges_5 (w : World) : Calls Try.prog 29 #[.int .i64 5] w fun e w' => ∃ v, e = .returned v ∧ Below w.heap.size w w' ∧ Rd w' v (lI (flR (B.rgs 5))) 8 := by
  go_enter Try.func29, Try.ntmps29
  go_wp2
  go_ret
  exact ⟨_, rfl, (Below.refl _ _).alloc (Nat.le_refl _) _, rd_new w _ _ _ rfl rfl⟩
theorem ranges_6 (w : World) : Calls Try.prog 29 #[.int .i64 6] w fun e w' => ∃ v, e = .returned v ∧ Below w.heap.size w w' ∧ Rd w' v (lI (flR (B.rgs 6))) 14 := by
  go_enter Try.func29, Try.ntmps29
  go_wp2
  go_ret
  exact ⟨_, rfl, (Below.refl _ _).alloc (Nat.le_refl _) _, rd_new w _ _ _ rfl rfl⟩
theorem ranges_7 (w : World) : Calls Try.prog 29 #[.int .i64 7] w fun e w' => ∃ v, e = .returned v ∧ Below w.heap.size w w' ∧ Rd w' v (lI (flR (B.rgs 7))) 14 := by
  go_enter Try.func29, Try.ntmps29
  go_wp2
  go_ret
  exact ⟨_, rfl, (Below.refl _ _).alloc (Nat.le_refl _) _, rd_new w _ _ _ rfl rfl⟩
theorem ranges_8 (w : World) : Calls Try.prog 29 #[.int .i64 8] w fun e w' => ∃ v, e = .returned v ∧ Below w.heap.size w w' ∧ Rd w' v (lI (flR (B.rgs 8))) 20 := by
  go_enter Try.func29, Try.ntmps29
  go_wp2
  go_ret
  exact ⟨_, rfl, (Below.refl _ _).alloc (Nat.le_refl _) _, rd_new w _ _ _ rfl rfl⟩
theorem ranges_9 (w : World) : Calls Try.prog 29 #[.int .i64 9] w fun e w' => ∃ v, e = .returned v ∧ Below w.heap.size w w' ∧ Rd w' v (lI (flR (B.rgs 9))) 2 := by
  go_enter Try.func29, Try.ntmps29
  go_wp2
  go_ret
  exact ⟨_, rfl, (Below.refl _ _).alloc (Nat.le_refl _) _, rd_new w _ _ _ rfl rfl⟩
theorem ranges_10 (w : World) : Calls Try.prog 29 #[.int .i64 10] w fun e w' => ∃ v, e = .returned v ∧ Below w.heap.size w w' ∧ Rd w' v (lI (flR (B.rgs 10))) 2 := by
  go_enter Try.func29, Try.ntmps29
  go_wp2
  go_ret
  exact ⟨_, rfl, (Below.refl _ _).alloc (Nat.le_refl _) _, rd_new w _ _ _ rfl rfl⟩
theorem ranges_11 (w : World) : Calls Try.prog 29 #[.int .i64 11] w fun e w' => ∃ v, e = .returned v ∧ Below w.heap.size w w' ∧ Rd w' v (lI (flR (B.rgs 11))) 2 := by
  go_enter Try.func29, Try.ntmps29
  go_wp2
  go_ret
  exact ⟨_, rfl, (Below.refl _ _).alloc (Nat.le_refl _) _, rd_new w _ _ _ rfl rfl⟩
theorem ranges_12 (w : World) : Calls Try.prog 29 #[.int .i64 12] w fun e w' => ∃ v, e = .returned v ∧ Below w.heap.size w w' ∧ Rd w' v (lI (flR (B.rgs 12))) 2 := by
  go_enter Try.func29, Try.ntmps29
  go_wp2
  go_ret
  exact ⟨_, rfl, (Below.refl _ _).alloc (Nat.le_refl _) _, rd_new w _ _ _ rfl rfl⟩
theorem ranges_13 (w : World) : Calls Try.prog 29 #[.int .i64 13] w fun e w' => ∃ v, e = .returned v ∧ Below w.heap.size w w' ∧ Rd w' v (lI (flR (B.rgs 13))) 36 := by
  have L := Lib.hid (letters_13 w)
  go_enter Try.func29, Try.ntmps29
  go_wp2_with (go_at_call 58; (with_reducible refine L.out.mono ?_); rintro e w1 ⟨v1, rfl, hb1, hr1⟩)
  go_ret
  exact ⟨_, rfl, hb1, hr1⟩
theorem ranges_14 (w : World) : Calls Try.prog 29 #[.int .i64 14] w fun e w' => ∃ v, e = .returned v ∧ Below w.heap.size w w' ∧ Rd w' v (lI (flR (B.rgs 14))) 8 := by
  have L := Lib.hid (letters_14 w)
  go_enter Try.func29, Try.ntmps29
  go_wp2_with (go_at_call 58; (with_reducible refine L.out.mono ?_); rintro e w1 ⟨v1, rfl, hb1, hr1⟩)
  go_ret
  exact ⟨_, rfl, hb1, hr1⟩
theorem ranges_15 (w : World) : Calls Try.prog 29 #[.int .i64 15] w fun e w' => ∃ v, e = .returned v ∧ Below w.heap.size w w' ∧ Rd w' v (lI (flR (B.rgs 15))) 12 := by
  have L := Lib.hid (letters_15 w)
  go_enter Try.func29, Try.ntmps29
  go_wp2_with (go_at_call 58; (with_reducible refine L.out.mono ?_); rintro e w1 ⟨v1, rfl, hb1, hr1⟩)
  go_ret
  exact ⟨_, rfl, hb1, hr1⟩
theorem ranges_16 (w : World) : Calls Try.prog 29 #[.int .i64 16] w fun e w' => ∃ v, e = .returned v ∧ Below w.heap.size w w' ∧ Rd w' v (lI (flR (B.rgs 16))) 72 := by
  have L := Lib.hid (letters_16 w)
  go_enter Try.func29, Try.ntmps29
  go_wp2_with (go_at_call 58; (with_reducible refine L.out.mono ?_); rintro e w1 ⟨v1, rfl, hb1, hr1⟩)
  go_ret
  exact ⟨_, rfl, hb1, hr1⟩
theorem ranges_any (k : Nat) (h1 : 1 ≤ k) (h2 : k ≤ 16) (w : World) : Calls Try.prog 29 #[.int .i64 (k : Int)] w fun e w' => ∃ v, e = .returned v ∧ Below w.heap.size w w' ∧ Rd w' v (lI (flR (B.rgs k))) (2 * (B.rgs k).length) := by
  match k, h1, h2 with
  | 1, _, _ => exact ranges_1 w
  | 2, _, _ => exact ranges_2 w
  | 3, _, _ => exact ranges_3 w
  | 4, _, _ => exact ranges_4 w
  | 5, _, _ => exact ranges_5 w
  | 6, _, _ => exact ranges_6 w
  | 7, _, _ => exact ranges_7 w
  | 8, _, _ => exact ranges_8 w
  | 9, _, _ => exact ranges_9 w
  | 10, _, _ => exact ranges_10 w
  | 11, _, _ => exact ranges_11 w
  | 12, _, _ => exact ranges_12 w
  | 13, _, _ => exact ranges_13 w
  | 14, _, _ => exact ranges_14 w
  | 15, _, _ => exact ranges_15 w
  | 16, _, _ => exact ranges_16 w
  | k + 17, _, h => exact absurd h (by omega)
end Go.Proofs.Ytclblidfamabdaa
