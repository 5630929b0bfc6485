/- bidi.weak. -/
import Derived.Test.YtclblidfamabdaaG3
import Derived.BigRegion
import Derived.RegionTactic
import Derived.Deep.DrawnRows
import Derived.Deep.RegionHeld3
set_option linter.unusedVariables false
set_option linter.unusedSimpArgs false
namespace Go.Proofs.Ytclblidfamabdaa
open Go.RowKit Go.Shelf Go.Lib Go.BigFrame
attribute [local go_sem] Oper.semAt_some

theorem v1_zero (side : Nat) (l : Nat → Nat) : B.v1 side l 0 = if l 0 = 13 then side else l 0 := rfl
theorem v1_succ (side : Nat) (l : Nat → Nat) (j : Nat) : B.v1 side l (j + 1) = if l (j + 1) = 13 then (if B.isIso (B.v1 side l j) = true then 16 else B.v1 side l j) else l (j + 1) := rfl
theorem v1_le (side : Nat) (l : Nat → Nat) (hs : side ≤ 17) : ∀ j, l j ≤ 17 → (∀ k, k < j → l k ≤ 17) → B.v1 side l j ≤ 17 := by
  intro j
  induction j with
  | zero => intro h _; rw [v1_zero]; split <;> omega
  | succ j ih =>
    intro h h2
    have := ih (h2 j (Nat.lt_succ_self j)) (fun k hk => h2 k (by omega))
    rw [v1_succ]
    split
    · split <;> omega
    · exact h

set_option maxRecDepth 1000000 in
set_option maxHeartbeats 16000000 in
theorem weak_any (g n side : Nat) (l : Nat → Nat) (w : World) (hn : n ≤ 4194304) (hside : side ≤ 17) (hl : ∀ j, j < n → l j ≤ 17) (hR : Rw w g (fun j => (l j : Int)) n) :
    Calls Try.prog 59 #[.slice (some ⟨g, 0, none⟩) n n, .int .i64 (side : Int)] w fun e w' => (∃ v, e = .returned v) ∧ Fr (fun k => k ≠ g) w w' ∧ Rw w' g (fun k => (B.wk side n l k : Int)) n := by
  have hgl := hR.lt
  have H0 : Hid (Wk w g n w.heap.size (w.heap.size + 1) side (fun j => (l j : Int)) ((w.alloc (.cells #[.slice (some ⟨g, 0, none⟩) n n] 29)).alloc (.cells #[.int .i64 (side : Int)] 3))) := Lib.hid
    ⟨((Fr.refl _ _).alloc _).alloc _, cell_new2 _ _ _ _ 0 _ rfl, box_two _ _ _ _, (hR.alloc _).alloc _, by omega, by omega⟩
  obtain ⟨r1, hr1⟩ : ∃ r, B.v1 side l = r := ⟨_, rfl⟩
  have HR1 := Lib.hid hr1
  have HL := Lib.hid hl
  clear hR hl hr1
  go_enter Try.func59, Try.ntmps59
  go_upto_block 0 with fail
  go_cut [15] (fun _ wx => Wk w g n w.heap.size (w.heap.size + 1) side (fun j => (r1 j : Int)) wx)
  case first =>
    go_wp2
    go_loopw [15] (fun iv wx => ∃ i : Nat, iv = .int .i64 (i : Int) ∧ i ≤ n ∧ Wk w g n w.heap.size (w.heap.size + 1) side (pt r1 l i) wx) (fun iv _ => n - (RowKit.intOf iv).toNat)
    case atStart => exact ⟨0, rfl, Nat.zero_le _, H0.out.congr (fun j _ => (pt_hi (Nat.not_lt_zero _)).symm)⟩
    case round =>
      clear H0
      obtain ⟨i, rfl, hi, hW⟩ := hrel
      by_cases hlt : i < n
      · have ck := hW.k
        have cs := hW.s
        have c0 := (hW.row.at hlt).1
        have f0 := (hW.row.at hlt).2
        rw [pt_hi (Nat.lt_irrefl i)] at c0
        have HW := Lib.hid hW
        obtain ⟨x, hx⟩ : ∃ x, l i = x := ⟨_, rfl⟩
        rw [hx] at c0
        have HX := Lib.hid hx
        clear hW hx
        by_cases h13 : x = 13
        · subst h13
          rcases Nat.eq_zero_or_pos i with hi0 | hi0
          · subst hi0
            have hv : (side : Int) = (r1 0 : Int) := by rw [← HR1.out, v1_zero, if_pos HX.out]
            have HV := Lib.hid hv
            clear hv
            go_wp2
            go_roundw
            case rel => exact ⟨0 + 1, rfl, hlt, (HW.out.set 0 _).congr (fun j _ => pt_set HV.out j)⟩
            case measure => simp [RowKit.intOf]; omega
          · obtain ⟨k, rfl⟩ : ∃ k, i = k + 1 := ⟨i - 1, by omega⟩
            have c1 := (HW.out.row.at (show k < n by omega)).1
            rw [pt_lo (Nat.lt_succ_self k)] at c1
            obtain ⟨y, hy⟩ : ∃ y, r1 k = y := ⟨_, rfl⟩
            rw [hy] at c1
            have hyv : r1 (k + 1) = if B.isIso y = true then 16 else y := by rw [← hy, ← HR1.out, v1_succ, if_pos HX.out]
            have HY := Lib.hid hyv
            have e1 : (((k + 1 : Nat) : Int) - 1) = (k : Int) := by omega
            have b0 : (((k + 1 : Nat) : Int) == 0) = false := by simp; omega
            have b0' : ((k : Int) + 1 == 0) = false := by simp; omega
            clear hy hyv
            by_cases hiso : 9 ≤ y ∧ y ≤ 12
            · obtain ⟨h9, h12⟩ := hiso
              have hv : (16 : Int) = (r1 (k + 1) : Int) := by rw [HY.out, if_pos (by unfold B.isIso; simp [h9, h12])]; rfl
              have HV := Lib.hid hv
              clear hv
              go_wp2
              go_roundw
              case rel => exact ⟨k + 1 + 1, by go_num, hlt, (HW.out.set _ _).congr (fun j _ => pt_set HV.out j)⟩
              case measure => simp [RowKit.intOf]; omega
            · have hv : (y : Int) = (r1 (k + 1) : Int) := by rw [HY.out, if_neg (by unfold B.isIso; simp; omega)]
              have HV := Lib.hid hv
              clear hv
              by_cases h9 : y < 9
              · clear hiso
                go_wp2
                go_region
                go_wp2
                go_roundw
                case rel => exact ⟨k + 1 + 1, by go_num, hlt, (HW.out.set _ _).drew.congr (fun j _ => pt_set HV.out j)⟩
                case measure => simp [RowKit.intOf]; omega
              · have h12 : 12 < y := by omega
                have h9' : 9 ≤ y := by omega
                clear hiso h9
                go_wp2
                go_region
                go_wp2
                go_roundw
                case rel => exact ⟨k + 1 + 1, by go_num, hlt, (HW.out.set _ _).drew.congr (fun j _ => pt_set HV.out j)⟩
                case measure => simp [RowKit.intOf]; omega
        · have b13 : ((x : Int) != 13) = true := by simp; omega
          have hv : r1 i = l i := by
            rw [← HR1.out]
            cases i with
            | zero => rw [v1_zero, if_neg (by rw [HX.out]; exact h13)]
            | succ i => rw [v1_succ, if_neg (by rw [HX.out]; exact h13)]
          have HV := Lib.hid hv
          clear hv
          go_wp2
          go_roundw
          case rel => exact ⟨i + 1, by go_num, hlt, HW.out.congr (fun j _ => pt_skip HV.out j)⟩
          case measure => simp [RowKit.intOf]; omega
      · obtain rfl : n = i := by omega
        have HW := Lib.hid hW
        clear hW
        go_wp2
        go_meet
        exact HW.out.congr (fun j hj => pt_lo hj)
  case rest =>
    have H1 := Lib.hid hcut
    clear hcut H0
    obtain ⟨r2, hr2⟩ : ∃ r, B.v2 side r1 = r := ⟨_, rfl⟩
    have HR2 := Lib.hid hr2
    clear hr2
    have ck1 := H1.out.k
    go_upto_block 3 with fail
    clear ck1
    go_cut [60] (fun _ wx => Wk w g n w.heap.size (w.heap.size + 1) side (fun j => (r2 j : Int)) wx)
    case first =>
      go_wp2
      go_loopw [60] (fun iv wx => ∃ i : Nat, iv = .int .i64 (i : Int) ∧ i ≤ n ∧ Wk w g n w.heap.size (w.heap.size + 1) side (pt r2 r1 i) wx) (fun iv _ => n - (RowKit.intOf iv).toNat)
      case atStart => exact ⟨0, rfl, Nat.zero_le _, H1.out.congr (fun j _ => (pt_hi (Nat.not_lt_zero _)).symm)⟩
      case round =>
        clear H1
        obtain ⟨i, rfl, hi, hW⟩ := hrel
        by_cases hlt : i < n
        · have ck := hW.k
          have c0 := (hW.row.at hlt).1
          have f0 := (hW.row.at hlt).2
          rw [pt_hi (Nat.lt_irrefl i)] at c0
          have hrl := hW.row.lt
          have ck2 : ∀ o, (wr.alloc o).cell? ⟨w.heap.size, 0, none⟩ = some (.slice (some ⟨g, 0, none⟩) n n) := fun o => (hW.below ((Below.refl _ _).alloc (Nat.le_refl _) o)).k
          have f2 : ∀ o, (wr.alloc o).frozen? ⟨g, i, none⟩ = false := fun o => ((hW.below ((Below.refl _ _).alloc (Nat.le_refl _) o)).row.at hlt).2
          obtain ⟨u2, hu2⟩ : ∃ u, ∀ o, (wr.alloc o).cell? ⟨g, i, none⟩ = some u := ⟨_, fun o => ((hW.below ((Below.refl _ _).alloc (Nat.le_refl _) o)).row.at hlt).1⟩
          have AH := ahead_wk (a := pn r2 r1 i) B.S3 of3 hW (fun j _ => pt_pn _ _ _ _) hn (by omega) _ _ (rd_of3 wr) has3 i hi
          have hah : B.ahd B.S3 (pn r2 r1 i) side i = B.ahd B.S3 r1 side i := (ahd_ext _ _ _ _ i (fun j hj => by rw [pn_lo hj, ← HR2.out])).trans (ahd_v2 side r1 i)
          rw [hah] at AH
          have hval : r2 i = if r1 i = 4 ∧ B.ahd B.S3 r1 side i = 14 then 5 else r1 i := by rw [← HR2.out]; rfl
          have HW := Lib.hid hW
          obtain ⟨x, hx⟩ : ∃ x, r1 i = x := ⟨_, rfl⟩
          rw [hx] at c0 hval
          obtain ⟨y, hy⟩ : ∃ y, B.ahd B.S3 r1 side i = y := ⟨_, rfl⟩
          rw [hy] at AH hval
          have HX := Lib.hid hx
          have AH := Lib.hid AH
          have HV := Lib.hid hval
          clear hW hx hah hval hy
          by_cases h4 : x = 4
          · subst h4
            by_cases h14 : y = 14
            · subst h14
              go_wp2_with (go_at_call 79; (with_reducible refine AH.out.mono ?_); rintro e w2 ⟨rfl, rfl⟩)
              go_roundw
              case rel => exact ⟨i + 1, by go_num, hlt, ((HW.out.set i 5).below ((Below.refl _ _).alloc (Nat.le_refl _) _)).congr (fun j _ => pt_set (by rw [HV.out]; rfl) j)⟩
              case measure => simp [RowKit.intOf]; omega
            · have b14 : ((y : Int) == 14) = false := by simp; omega
              go_wp2_with (go_at_call 79; (with_reducible refine AH.out.mono ?_); rintro e w2 ⟨rfl, rfl⟩)
              go_roundw
              case rel => exact ⟨i + 1, by go_num, hlt, (HW.out.below ((Below.refl _ _).alloc (Nat.le_refl _) _)).congr (fun j _ => pt_skip (by rw [HV.out, if_neg (fun h => h14 h.2), HX.out]) j)⟩
              case measure => simp [RowKit.intOf]; omega
          · have b4 : ((x : Int) == 4) = false := by simp; omega
            clear AH
            go_wp2
            go_roundw
            case rel => exact ⟨i + 1, by go_num, hlt, HW.out.congr (fun j _ => pt_skip (by rw [HV.out, if_neg (fun h => h4 h.1), HX.out]) j)⟩
            case measure => simp [RowKit.intOf]; omega
        · obtain rfl : n = i := by omega
          have HW := Lib.hid hW
          clear hW
          go_wp2
          go_meet
          exact HW.out.congr (fun j hj => pt_lo hj)
    case rest =>
      have H2 := Lib.hid hcut
      clear hcut H1
      obtain ⟨r3, hr3⟩ : ∃ r, B.v3 r2 = r := ⟨_, rfl⟩
      have HR3 := Lib.hid hr3
      clear hr3
      have ck1 := H2.out.k
      go_upto_block 5 with fail
      clear ck1
      go_cut [81] (fun _ wx => Wk w g n w.heap.size (w.heap.size + 1) side (fun j => (r3 j : Int)) wx)
      case first =>
        go_wp2
        go_loopw [81] (fun iv wx => ∃ i : Nat, iv = .int .i64 (i : Int) ∧ i ≤ n ∧ Wk w g n w.heap.size (w.heap.size + 1) side (pt r3 r2 i) wx) (fun iv _ => n - (RowKit.intOf iv).toNat)
        case atStart => exact ⟨0, rfl, Nat.zero_le _, H2.out.congr (fun j _ => (pt_hi (Nat.not_lt_zero _)).symm)⟩
        case round =>
          clear H2
          obtain ⟨i, rfl, hi, hW⟩ := hrel
          by_cases hlt : i < n
          · have ck := hW.k
            have c0 := (hW.row.at hlt).1
            have f0 := (hW.row.at hlt).2
            rw [pt_hi (Nat.lt_irrefl i)] at c0
            have hval : r3 i = if r2 i = 14 then 15 else r2 i := by rw [← HR3.out]; rfl
            have HW := Lib.hid hW
            obtain ⟨x, hx⟩ : ∃ x, r2 i = x := ⟨_, rfl⟩
            rw [hx] at c0 hval
            have HX := Lib.hid hx
            have HV := Lib.hid hval
            clear hW hx hval
            by_cases h14 : x = 14
            · subst h14
              go_wp2
              go_roundw
              case rel => exact ⟨i + 1, by go_num, hlt, (HW.out.set i 15).congr (fun j _ => pt_set (by rw [HV.out]; rfl) j)⟩
              case measure => simp [RowKit.intOf]; omega
            · have b14 : ((x : Int) == 14) = false := by simp; omega
              go_wp2
              go_roundw
              case rel => exact ⟨i + 1, by go_num, hlt, HW.out.congr (fun j _ => pt_skip (by rw [HV.out, if_neg h14, HX.out]) j)⟩
              case measure => simp [RowKit.intOf]; omega
          · obtain rfl : n = i := by omega
            have HW := Lib.hid hW
            clear hW
            go_wp2
            go_meet
            exact HW.out.congr (fun j hj => pt_lo hj)
      case rest =>
        have H3 := Lib.hid hcut
        clear hcut H2
        obtain ⟨r4, hr4⟩ : ∃ r, B.v4 n r3 = r := ⟨_, rfl⟩
        have HR4 := Lib.hid hr4
        clear hr4
        have ck1 := H3.out.k
        go_upto_block 7 with fail
        clear ck1
        go_cut [8] (fun _ wx => Wk w g n w.heap.size (w.heap.size + 1) side (fun j => (r4 j : Int)) wx)
        case first =>
          go_wp2
          go_loopw [8] (fun iv wx => ∃ i : Nat, iv = .int .i64 (i : Int) ∧ 1 ≤ i ∧ (i = 1 ∨ i ≤ n) ∧ Wk w g n w.heap.size (w.heap.size + 1) side (pt r4 r3 i) wx) (fun iv _ => n - (RowKit.intOf iv).toNat)
          case atStart => exact ⟨1, rfl, Nat.le_refl _, .inl rfl, H3.out.congr (fun j _ => by
            unfold pt
            by_cases h : j < 1
            · obtain rfl : j = 0 := by omega
              rw [if_pos h, ← HR4.out]; rfl
            · rw [if_neg h])⟩
          case round =>
            clear H3
            obtain ⟨i, rfl, hi1, hin, hW⟩ := hrel
            by_cases hlt : i + 1 < n
            · obtain ⟨k, rfl⟩ : ∃ k, i = k + 1 := ⟨i - 1, by omega⟩
              have ck := hW.k
              have c0 := (hW.row.at (show k < n by omega)).1
              have c1 := (hW.row.at (show k + 1 < n by omega)).1
              have f1 := (hW.row.at (show k + 1 < n by omega)).2
              have c2 := (hW.row.at (show k + 2 < n by omega)).1
              rw [pt_lo (Nat.lt_succ_self k)] at c0
              rw [pt_hi (Nat.lt_irrefl _)] at c1
              rw [pt_hi (by omega)] at c2
              have hval : r4 (k + 1) = if k + 2 < n ∧ r4 k = r3 (k + 2) ∧ (r3 (k + 1) = 6 ∧ r4 k = 4 ∨ r3 (k + 1) = 8 ∧ (r4 k = 4 ∨ r4 k = 5)) then r4 k else r3 (k + 1) := by rw [← HR4.out]; rfl
              have hk2 : k + 2 < n := hlt
              have HW := Lib.hid hW
              obtain ⟨c, hc⟩ : ∃ c, r4 k = c := ⟨_, rfl⟩
              obtain ⟨x, hx⟩ : ∃ x, r3 (k + 1) = x := ⟨_, rfl⟩
              obtain ⟨y, hy⟩ : ∃ y, r3 (k + 2) = y := ⟨_, rfl⟩
              rw [hc, hx, hy] at hval
              rw [hc] at c0
              rw [hx] at c1
              rw [hy] at c2
              have HX := Lib.hid hx
              have HV := Lib.hid hval
              clear hW hc hx hy hval hin hi1
              by_cases hcy : c = y
              · subst hcy
                by_cases hx6 : x = 6
                · subst hx6
                  by_cases h4 : c = 4
                  · subst h4
                    go_wp2
                    go_roundw
                    case rel => exact ⟨k + 1 + 1, by go_num, by omega, .inr (by omega), (HW.out.set (k + 1) 4).congr (fun j _ => pt_set (by rw [HV.out, if_pos (by omega)]; rfl) j)⟩
                    case measure => simp [RowKit.intOf]; omega
                  · have b4 : ((c : Int) == 4) = false := by simp; omega
                    go_wp2
                    go_roundw
                    case rel => exact ⟨k + 1 + 1, by go_num, by omega, .inr (by omega), HW.out.congr (fun j _ => pt_skip (by rw [HV.out, if_neg (by omega), HX.out]) j)⟩
                    case measure => simp [RowKit.intOf]; omega
                · have b6 : ((x : Int) == 6) = false := by simp; omega
                  by_cases hx8 : x = 8
                  · subst hx8
                    by_cases h4 : c = 4
                    · subst h4
                      go_wp2
                      go_roundw
                      case rel => exact ⟨k + 1 + 1, by go_num, by omega, .inr (by omega), (HW.out.set (k + 1) 4).congr (fun j _ => pt_set (by rw [HV.out, if_pos (by omega)]; rfl) j)⟩
                      case measure => simp [RowKit.intOf]; omega
                    · have b4 : ((c : Int) == 4) = false := by simp; omega
                      by_cases h5 : c = 5
                      · subst h5
                        go_wp2
                        go_roundw
                        case rel => exact ⟨k + 1 + 1, by go_num, by omega, .inr (by omega), (HW.out.set (k + 1) 5).congr (fun j _ => pt_set (by rw [HV.out, if_pos (by omega)]; rfl) j)⟩
                        case measure => simp [RowKit.intOf]; omega
                      · have b5 : ((c : Int) == 5) = false := by simp; omega
                        go_wp2
                        go_roundw
                        case rel => exact ⟨k + 1 + 1, by go_num, by omega, .inr (by omega), HW.out.congr (fun j _ => pt_skip (by rw [HV.out, if_neg (by omega), HX.out]) j)⟩
                        case measure => simp [RowKit.intOf]; omega
                  · have b8 : ((x : Int) == 8) = false := by simp; omega
                    go_wp2
                    go_roundw
                    case rel => exact ⟨k + 1 + 1, by go_num, by omega, .inr (by omega), HW.out.congr (fun j _ => pt_skip (by rw [HV.out, if_neg (by omega), HX.out]) j)⟩
                    case measure => simp [RowKit.intOf]; omega
              · have b1 : ((c : Int) == (y : Int)) = false := by simp; omega
                go_wp2
                go_roundw
                case rel => exact ⟨k + 1 + 1, by go_num, by omega, .inr (by omega), HW.out.congr (fun j _ => pt_skip (by rw [HV.out, if_neg (by omega), HX.out]) j)⟩
                case measure => simp [RowKit.intOf]; omega
            · have hge : n ≤ i + 1 := by omega
              have ck := hW.k
              have HW := Lib.hid hW
              clear hW
              go_wp2
              go_meet
              exact HW.out.congr (fun j hj => by
                by_cases h : j < i
                · exact pt_lo h
                · rw [pt_hi h]
                  obtain ⟨k, rfl⟩ : ∃ k, j = k + 1 := ⟨j - 1, by omega⟩
                  rw [← HR4.out, show B.v4 n r3 (k + 1) = if k + 2 < n ∧ B.v4 n r3 k = r3 (k + 2) ∧ (r3 (k + 1) = 6 ∧ B.v4 n r3 k = 4 ∨ r3 (k + 1) = 8 ∧ (B.v4 n r3 k = 4 ∨ B.v4 n r3 k = 5)) then B.v4 n r3 k else r3 (k + 1) from rfl, if_neg (by omega)])
        case rest =>
          have H4 := Lib.hid hcut
          clear hcut H3
          obtain ⟨r5, hr5⟩ : ∃ r, B.v5 n r4 = r := ⟨_, rfl⟩
          have HR5 := Lib.hid hr5
          have hgw : g < wc.heap.size := H4.out.row.lt
          have ST : Hid (Calls Try.prog 81 #[.slice (some ⟨g, 0, none⟩) n n, .func (.func 82) #[] #[], .func (.func 83) #[] #[.pointer (some ⟨w.heap.size, 0, none⟩)]] wc fun e w' => (∃ v, e = .returned v) ∧ Fr (fun k => k ≠ g) wc w' ∧ Rw w' g (fun k => (B.v5 n r4 k : Int)) n) := Lib.hid (by
            refine stretches_any 82 83 #[.pointer (some ⟨w.heap.size, 0, none⟩)] g n r4 B.isET (B.F5 n r4) (fun A => A.cell? ⟨w.heap.size, 0, none⟩ = some (.slice (some ⟨g, 0, none⟩) n n)) wc hn hgw ?_ H4.out.k H4.out.row enters_et enters_f5 ?_ ?_
            · intro A A' hf _ h
              exact hf.cell h (show w.heap.size ≠ g by omega)
            · intro k W hk
              exact et_any (r4 k) W
            · intro cur W i j hij hjn hC hRw h1 h2
              exact f5_any w.heap.size g n i j r4 cur W hn hij hjn hC hRw h1 h2)
          rw [hr5] at ST
          clear hr5
          obtain ⟨r6, hr6⟩ : ∃ r, B.v6 r5 = r := ⟨_, rfl⟩
          have HR6 := Lib.hid hr6
          clear hr6
          have ck1 := H4.out.k
          go_upto_block 9 with (go_at_call 81; (with_reducible refine ST.out.mono ?_); rintro e w5 ⟨⟨v5, rfl⟩, hf5, hr5'⟩; have h5 := H4.out.to hf5 hr5'; have ck5 := h5.k; have H5 := Lib.hid h5; clear h5 hf5 hr5' ck1)
          clear ck5 ST
          go_cut [147] (fun _ wx => Wk w g n w.heap.size (w.heap.size + 1) side (fun j => (r6 j : Int)) wx)
          case first =>
            go_wp2
            go_loopw [147] (fun iv wx => ∃ i : Nat, iv = .int .i64 (i : Int) ∧ i ≤ n ∧ Wk w g n w.heap.size (w.heap.size + 1) side (pt r6 r5 i) wx) (fun iv _ => n - (RowKit.intOf iv).toNat)
            case atStart => exact ⟨0, rfl, Nat.zero_le _, H5.out.congr (fun j _ => (pt_hi (Nat.not_lt_zero _)).symm)⟩
            case round =>
              clear H5 H4
              obtain ⟨i, rfl, hi, hW⟩ := hrel
              by_cases hlt : i < n
              · have ck := hW.k
                have c0 := (hW.row.at hlt).1
                have f0 := (hW.row.at hlt).2
                rw [pt_hi (Nat.lt_irrefl i)] at c0
                have hval : r6 i = if r5 i = 6 ∨ r5 i = 7 ∨ r5 i = 8 then 16 else r5 i := by rw [← HR6.out]; rfl
                have HW := Lib.hid hW
                obtain ⟨x, hx⟩ : ∃ x, r5 i = x := ⟨_, rfl⟩
                rw [hx] at c0 hval
                have HX := Lib.hid hx
                have HV := Lib.hid hval
                clear hW hx hval
                by_cases h6 : x = 6
                · subst h6
                  go_wp2
                  go_roundw
                  case rel => exact ⟨i + 1, by go_num, hlt, (HW.out.set i 16).congr (fun j _ => pt_set (by rw [HV.out]; rfl) j)⟩
                  case measure => simp [RowKit.intOf]; omega
                · have b6 : ((x : Int) == 6) = false := by simp; omega
                  by_cases h7 : x = 7
                  · subst h7
                    go_wp2
                    go_roundw
                    case rel => exact ⟨i + 1, by go_num, hlt, (HW.out.set i 16).congr (fun j _ => pt_set (by rw [HV.out]; rfl) j)⟩
                    case measure => simp [RowKit.intOf]; omega
                  · have b7 : ((x : Int) == 7) = false := by simp; omega
                    by_cases h8 : x = 8
                    · subst h8
                      go_wp2
                      go_roundw
                      case rel => exact ⟨i + 1, by go_num, hlt, (HW.out.set i 16).congr (fun j _ => pt_set (by rw [HV.out]; rfl) j)⟩
                      case measure => simp [RowKit.intOf]; omega
                    · have b8 : ((x : Int) == 8) = false := by simp; omega
                      go_wp2
                      go_roundw
                      case rel => exact ⟨i + 1, by go_num, hlt, HW.out.congr (fun j _ => pt_skip (by rw [HV.out, if_neg (by omega), HX.out]) j)⟩
                      case measure => simp [RowKit.intOf]; omega
              · obtain rfl : n = i := by omega
                have HW := Lib.hid hW
                clear hW
                go_wp2
                go_meet
                exact HW.out.congr (fun j hj => pt_lo hj)
          case rest =>
            have H6 := Lib.hid hcut
            clear hcut H5 H4
            obtain ⟨r7, hr7⟩ : ∃ r, B.v7 side r6 = r := ⟨_, rfl⟩
            have HR7 := Lib.hid hr7
            clear hr7
            have ck1 := H6.out.k
            go_wp2
            go_loopw [175] (fun iv wx => ∃ i : Nat, iv = .int .i64 (i : Int) ∧ i ≤ n ∧ Wk w g n w.heap.size (w.heap.size + 1) side (pt r7 r6 i) wx) (fun iv _ => n - (RowKit.intOf iv).toNat)
            case atStart => exact ⟨0, rfl, Nat.zero_le _, H6.out.congr (fun j _ => (pt_hi (Nat.not_lt_zero _)).symm)⟩
            case round =>
              clear H6 ck1
              obtain ⟨i, rfl, hi, hW⟩ := hrel
              by_cases hlt : i < n
              · have ck := hW.k
                have c0 := (hW.row.at hlt).1
                have f0 := (hW.row.at hlt).2
                rw [pt_hi (Nat.lt_irrefl i)] at c0
                have ck2 : ∀ o, (wr.alloc o).cell? ⟨w.heap.size, 0, none⟩ = some (.slice (some ⟨g, 0, none⟩) n n) := fun o => (hW.below ((Below.refl _ _).alloc (Nat.le_refl _) o)).k
                have f2 : ∀ o, (wr.alloc o).frozen? ⟨g, i, none⟩ = false := fun o => ((hW.below ((Below.refl _ _).alloc (Nat.le_refl _) o)).row.at hlt).2
                obtain ⟨u2, hu2⟩ : ∃ u, ∀ o, (wr.alloc o).cell? ⟨g, i, none⟩ = some u := ⟨_, fun o => ((hW.below ((Below.refl _ _).alloc (Nat.le_refl _) o)).row.at hlt).1⟩
                have AH := ahead_wk (a := pn r7 r6 i) B.S2 of2 hW (fun j _ => pt_pn _ _ _ _) hn (by omega) _ _ (rd_of2 wr) has2 i hi
                have hah : B.ahd B.S2 (pn r7 r6 i) side i = B.ahd B.S2 r6 side i := (ahd_ext _ _ _ _ i (fun j hj => by rw [pn_lo hj, ← HR7.out])).trans (ahd_v7 side r6 i)
                rw [hah] at AH
                have hval : r7 i = if r6 i = 4 ∧ B.ahd B.S2 r6 side i = 17 then 17 else r6 i := by rw [← HR7.out]; rfl
                have HW := Lib.hid hW
                obtain ⟨x, hx⟩ : ∃ x, r6 i = x := ⟨_, rfl⟩
                rw [hx] at c0 hval
                obtain ⟨y, hy⟩ : ∃ y, B.ahd B.S2 r6 side i = y := ⟨_, rfl⟩
                rw [hy] at AH hval
                have HX := Lib.hid hx
                have AH := Lib.hid AH
                have HV := Lib.hid hval
                clear hW hx hah hval hy
                by_cases h4 : x = 4
                · subst h4
                  by_cases h17 : y = 17
                  · subst h17
                    go_wp2_with (go_at_call 79; (with_reducible refine AH.out.mono ?_); rintro e w2 ⟨rfl, rfl⟩)
                    go_roundw
                    case rel => exact ⟨i + 1, by go_num, hlt, ((HW.out.below ((Below.refl _ _).alloc (Nat.le_refl _) _)).set i 17).congr (fun j _ => pt_set (by rw [HV.out]; rfl) j)⟩
                    case measure => simp [RowKit.intOf]; omega
                  · have b17 : ((y : Int) == 17) = false := by simp; omega
                    go_wp2_with (go_at_call 79; (with_reducible refine AH.out.mono ?_); rintro e w2 ⟨rfl, rfl⟩)
                    go_roundw
                    case rel => exact ⟨i + 1, by go_num, hlt, (HW.out.below ((Below.refl _ _).alloc (Nat.le_refl _) _)).congr (fun j _ => pt_skip (by rw [HV.out, if_neg (fun h => h17 h.2), HX.out]) j)⟩
                    case measure => simp [RowKit.intOf]; omega
                · have b4 : ((x : Int) == 4) = false := by simp; omega
                  clear AH
                  go_wp2
                  go_roundw
                  case rel => exact ⟨i + 1, by go_num, hlt, HW.out.congr (fun j _ => pt_skip (by rw [HV.out, if_neg (fun h => h4 h.1), HX.out]) j)⟩
                  case measure => simp [RowKit.intOf]; omega
              · obtain rfl : n = i := by omega
                have HW := Lib.hid hW
                clear hW
                go_wp2
                go_end0
                refine ⟨⟨_, rfl⟩, HW.out.fr, HW.out.row.congr (fun j hj => ?_)⟩
                rw [pt_lo hj, ← HR7.out, ← HR6.out, ← HR5.out, ← HR4.out, ← HR3.out, ← HR2.out, ← HR1.out]
                rfl
end Go.Proofs.Ytclblidfamabdaa

/- Levels of a row: plain; isolate. -/
set_option linter.unusedVariables false
set_option linter.unusedSimpArgs false
namespace Go.Proofs.Ytclblidfamabdaa
open Go.RowKit Go.Shelf Go.Lib Go.BigFrame
attribute [local go_sem] Oper.semAt_some

theorem lev_item (c cl : Nat → Nat) (hup : B.Up cl) (f frm tz e n : Nat) : B.lev c cl (f + 1) frm tz e (B.itm cl frm n) = B.lvl e (B.res (B.sid e) (B.cnt cl frm tz) (fun m => c (B.itm cl frm m)) n) := by
  have hl : B.loc cl frm (B.itm cl frm n) = n := B.loc_is hup frm _ n (Nat.le_refl _) (B.itm_lt hup frm n (n + 1) (Nat.lt_succ_self n))
  unfold B.lev
  rw [hl, if_pos rfl]
theorem lev_in (c cl : Nat → Nat) (hup : B.Up cl) (f frm tz e n k : Nat) (h1 : B.itm cl frm n < k) (h2 : k < B.itm cl frm (n + 1)) : B.lev c cl (f + 1) frm tz e k = B.lev c cl f (B.itm cl frm n + 1) (cl (B.itm cl frm n)) (B.inn c cl e (B.itm cl frm n)) k := by
  have hl : B.loc cl frm k = n := B.loc_is hup frm _ n (by omega) h2
  rw [show B.lev c cl (f + 1) frm tz e k = if B.itm cl frm (B.loc cl frm k) = k then B.lvl e (B.res (B.sid e) (B.cnt cl frm tz) (fun n => c (B.itm cl frm n)) (B.loc cl frm k)) else B.lev c cl f (B.itm cl frm (B.loc cl frm k) + 1) (cl (B.itm cl frm (B.loc cl frm k))) (B.inn c cl e (B.itm cl frm (B.loc cl frm k))) k from rfl, hl, if_neg (by omega)]

/-- A paragraph in memory. -/
structure Px (W : World) (xb N gl : Nat) (fv cv clv : Value) (ch cl : Nat → Nat) : Prop where
  box : W.heap[xb]? = some (.cells #[fv, cv, clv, .slice (some ⟨gl, 0, none⟩) N N] 55 (0, 0))
  rc : Rd W cv (fun j => (ch j : Int)) N
  rcl : Rd W clv (clI cl) N
  ne : xb ≠ gl ∧ cv.ownBlock ≠ some gl ∧ clv.ownBlock ≠ some gl
theorem Px.fr {W W' : World} {xb N gl : Nat} {fv cv clv : Value} {ch cl : Nat → Nat} (h : Px W xb N gl fv cv clv ch cl) (hf : Fr (fun k => k ≠ gl) W W') : Px W' xb N gl fv cv clv ch cl :=
  ⟨(hf.block _ (Array.getElem?_eq_some_iff.1 h.box).1 h.ne.1).trans h.box, h.rc.fr hf (fun q e _ e2 => h.ne.2.1 (by rw [e, e2])), h.rcl.fr hf (fun q e _ e2 => h.ne.2.2 (by rw [e, e2])), h.ne⟩
theorem Px.cells {W : World} {xb N gl : Nat} {fv cv clv : Value} {ch cl : Nat → Nat} (h : Px W xb N gl fv cv clv ch cl) : W.cell? ⟨xb, 0, none⟩ = some fv ∧ W.cell? ⟨xb, 1, none⟩ = some cv ∧ W.cell? ⟨xb, 2, none⟩ = some clv ∧ W.cell? ⟨xb, 3, none⟩ = some (.slice (some ⟨gl, 0, none⟩) N N) := by
  refine ⟨?_, ?_, ?_, ?_⟩ <;> simp [World.cell?, h.box]
theorem Px.drewN {W : World} {xb N gl : Nat} {fv cv clv : Value} {ch cl : Nat → Nat} (h : Px W xb N gl fv cv clv ch cl) (n : Nat) : Px (W.drewN n) xb N gl fv cv clv ch cl := h.fr ((Fr.refl _ _).drewN n)

/-- What is asked of where isolates close. -/
structure ClOk (N : Nat) (ch cl : Nat → Nat) : Prop where
  up : B.Up cl
  le : ∀ x, x < N → cl x ≤ N
  nest : ∀ x y, x < y → y < cl x → cl y ≤ cl x
  ch : ∀ j, ch j ≤ 17
/-- The contract of a row's levels, of so many places at most. -/
def RowP (N : Nat) (ch cl : Nat → Nat) (f : Nat) : Prop := ∀ (xb gl : Nat) (fv cv clv : Value) (frm tz e : Nat) (W : World) (lv : Nat → Int), tz - frm ≤ f → frm ≤ tz → tz ≤ N → (∀ x, frm ≤ x → x < tz → cl x ≤ tz) → e + 2 * (tz - frm) ≤ 16777216 → Px W xb N gl fv cv clv ch cl → Rw W gl lv N →
  Calls Try.prog 35 #[.pointer (some ⟨xb, 0, none⟩), .int .i64 (frm : Int), .int .i64 (tz : Int), .int .i64 (e : Int)] W fun en w' => (∃ v, en = .returned v) ∧ Fr (fun k => k ≠ gl) W w' ∧ Rw w' gl (fun k => if frm ≤ k ∧ k < tz then (B.lev ch cl f frm tz e k : Int) else lv k) N

theorem stg_vals (c : Nat → Nat) (it : Nat → Nat) : ∀ f n, B.stgF c it f n = 0 ∨ B.stgF c it f n = 17 ∨ B.stgF c it f n = 15 ∨ B.stgF c it f n = 14 := by
  intro f
  induction f with
  | zero => intro n; exact .inl rfl
  | succ f ih =>
    intro n
    unfold B.stgF
    by_cases h : B.S3 (c (it n)) = true
    · rw [if_pos h]; simp [B.S3] at h; omega
    · rw [if_neg h]; exact ih (n + 1)
theorem stI_is (x : Nat) (h : x = 0 ∨ x = 17 ∨ x = 15 ∨ x = 14) : ((stI x) == 1) = decide (x = 15 ∨ x = 14) := by rcases h with h | h | h | h <;> subst h <;> rfl

set_option maxRecDepth 1000000 in
set_option maxHeartbeats 4000000 in
theorem iso_of_row (N : Nat) (ch cl : Nat → Nat) (hN : N ≤ 4194304) (hK : ClOk N ch cl) (f : Nat) (hP : RowP N ch cl f) (xb gl : Nat) (fv cv clv : Value) (i e : Nat) (W : World) (lv : Nat → Int) (hi : i < N) (hci : cl i ≠ 0) (hf : cl i - (i + 1) ≤ f) (he : e + 2 + 2 * (cl i - (i + 1)) ≤ 16777216) (hX : Px W xb N gl fv cv clv ch cl) (hL : Rw W gl lv N) :
    Calls Try.prog 61 #[.pointer (some ⟨xb, 0, none⟩), .int .i64 (i : Int), .int .i64 (e : Int)] W fun en w' => (∃ v, en = .returned v) ∧ Fr (fun k => k ≠ gl) W w' ∧ Rw w' gl (fun k => if i + 1 ≤ k ∧ k < cl i then (B.lev ch cl f (i + 1) (cl i) (B.inn ch cl e i) k : Int) else lv k) N := by
  obtain ⟨x0, x1, x2, x3⟩ := hX.cells
  have hup := hK.up i hci
  have hle := hK.le i hi
  have HP := Lib.hid (fun (E : Nat) (hE : E + 2 * (cl i - (i + 1)) ≤ 16777216) (W' : World) (h : Px W' xb N gl fv cv clv ch cl) (h2 : Rw W' gl lv N) => hP xb gl fv cv clv (i + 1) (cl i) E W' lv hf (by omega) hle (fun x h1 h2 => hK.nest i x (by omega) h2) hE h h2)
  have RO := Lib.hid (fun (W' : World) (h : Rd W' clv (clI cl) N) => row_any (i + 1) (cl i) N clv cl W' hN hle (by omega) hK.up hK.le h)
  have hcnt := B.cnt_le hK.up (i + 1) (cl i)
  have hspec := B.cnt_spec hK.up (i + 1) (cl i)
  have SA := Lib.hid (fun (W' : World) (rv : Value) (h : Rd W' rv (itI cl (i + 1)) (B.cnt cl (i + 1) (cl i))) (h2 : Rd W' cv (fun j => (ch j : Int)) N) => strong_any rv cv (B.itm cl (i + 1)) ch _ N W' (by omega) hN h h2 (fun j hj => by have := (hspec j).1 hj; omega))
  have hinn : B.inn ch cl e i = if (decide ((e + 1) % 2 = 1)) = B.odd ch cl i then e + 1 else e + 2 := rfl
  have hodd : B.odd ch cl i = if ch i = 11 then decide (B.stg ch cl (i + 1) (cl i) = 15 ∨ B.stg ch cl (i + 1) (cl i) = 14) else decide (ch i = 10) := rfl
  have hsv : B.stg ch cl (i + 1) (cl i) = 0 ∨ B.stg ch cl (i + 1) (cl i) = 17 ∨ B.stg ch cl (i + 1) (cl i) = 15 ∨ B.stg ch cl (i + 1) (cl i) = 14 := stg_vals _ _ _ _
  have hsI : ((stI (B.stg ch cl (i + 1) (cl i))) == 1) = decide (B.stg ch cl (i + 1) (cl i) = 15 ∨ B.stg ch cl (i + 1) (cl i) = 14) := stI_is _ hsv
  rw [show B.stgF ch (B.itm cl (i + 1)) (B.cnt cl (i + 1) (cl i)) 0 = B.stg ch cl (i + 1) (cl i) from rfl] at SA
  obtain ⟨cnt, hcn⟩ : ∃ c, B.cnt cl (i + 1) (cl i) = c := ⟨_, rfl⟩
  rw [hcn] at RO SA
  obtain ⟨CA, cc, rfl, hcc, hc1⟩ := hX.rc
  obtain ⟨LA, lc, rfl, hlc, hl1⟩ := hX.rcl
  obtain ⟨cg, co, rfl, hcg⟩ := hc1 (by omega)
  obtain ⟨lg, lo, rfl, hlg⟩ := hl1 (by omega)
  have c0 : W.cell? ⟨cg, co + i, none⟩ = some (.int .i64 (ch i : Int)) := hcg i hi
  have l0 := hlg i hi
  rw [show clI cl i = (cl i : Int) by unfold clI; rw [if_neg hci]] at l0
  obtain ⟨q, hq⟩ : ∃ q, cl i = q := ⟨_, rfl⟩
  obtain ⟨I, hI⟩ : ∃ I, B.inn ch cl e i = I := ⟨_, rfl⟩
  rw [hI] at hinn ⊢
  obtain ⟨b, hb⟩ : ∃ b, B.odd ch cl i = b := ⟨_, rfl⟩
  rw [hb] at hinn hodd
  obtain ⟨s, hs⟩ : ∃ s, B.stg ch cl (i + 1) (cl i) = s := ⟨_, rfl⟩
  rw [hs] at hodd hsI SA
  rw [hq] at l0 hup hle he HP RO hf ⊢
  obtain ⟨x, hx⟩ : ∃ x, ch i = x := ⟨_, rfl⟩
  rw [hx] at c0 hodd
  have HO := Lib.hid (And.intro hinn hodd)
  have HSI := Lib.hid hsI
  have HX := Lib.hid (And.intro hX hL)
  clear hinn hodd hsI hX hL hcg hlg hc1 hl1 hcn hq hI hb hs hx hP hK hspec hsv hci hcnt
  obtain ⟨par, hpar⟩ : ∃ b, decide ((e + 1) % 2 = 1) = b := ⟨_, rfl⟩
  have hp1 : ((((e : Int) + 1) % 2) == 1) = par := by
    rw [← hpar]
    by_cases h : (e + 1) % 2 = 1
    · rw [decide_eq_true h]; simp; omega
    · rw [decide_eq_false h]; simp; omega
  have HI : Hid (I = if par = b then e + 1 else e + 2) := Lib.hid (by rw [HO.out.1, hpar])
  have HPI : Hid (∀ (A E : Int), A = (i : Int) + 1 → E = (I : Int) → ∀ W', Px W' xb N gl fv (.slice (some ⟨cg, co, none⟩) N cc) (.slice (some ⟨lg, lo, none⟩) N lc) ch cl → Rw W' gl lv N → Calls Try.prog 35 #[.pointer (some ⟨xb, 0, none⟩), .int .i64 A, .int .i64 (q : Int), .int .i64 E] W' fun en w' => (∃ v, en = .returned v) ∧ Fr (fun k => k ≠ gl) W' w' ∧ Rw w' gl (fun k => if i + 1 ≤ k ∧ k < q then (B.lev ch cl f (i + 1) q I k : Int) else lv k) N) := Lib.hid (fun A E hA hE W' h1 h2 => by
    subst hA hE
    exact HP.out I (by have := HI.out; split at this <;> omega) W' h1 h2)
  clear hpar HP
  by_cases h11 : x = 11
  · subst h11
    have HB := Lib.hid (show (stI s == 1) = b by rw [HSI.out, HO.out.2, if_pos rfl])
    obtain ⟨S, hS⟩ : ∃ S, stI s = S := ⟨_, rfl⟩
    rw [hS] at SA
    have hSb : (S == 1) = b := by rw [← hS]; exact HB.out
    clear hS
    have KB : Hid (∀ W', Below W.heap.size W W' → W'.cell? ⟨xb, 2, none⟩ = some (.slice (some ⟨lg, lo, none⟩) N lc) ∧ W'.cell? ⟨xb, 1, none⟩ = some (.slice (some ⟨cg, co, none⟩) N cc) ∧ Rd W' (.slice (some ⟨cg, co, none⟩) N cc) (fun j => (ch j : Int)) N ∧ Px W' xb N gl fv (.slice (some ⟨cg, co, none⟩) N cc) (.slice (some ⟨lg, lo, none⟩) N lc) ch cl ∧ Rw W' gl lv N) := Lib.hid (fun W' h => by
      have hf : Fr (fun k => k ≠ gl) W W' := Fr.of_below h (fun k hk _ => hk)
      have hp := HX.out.1.fr hf
      exact ⟨hp.cells.2.2.1, hp.cells.2.1, hp.rc, hp, HX.out.2.fr (Fr.of_below (S := fun k => k < W.heap.size) h (fun k _ h => h)) HX.out.2.lt⟩)
    have HR1 : Hid (∀ (A : Int), A = (i : Int) + 1 → ∀ W', Below W.heap.size W W' → Calls Try.prog 43 #[.int .i64 A, .int .i64 (q : Int), .slice (some ⟨lg, lo, none⟩) N lc] W' fun e w' => ∃ v, e = .returned v ∧ Below W.heap.size W w' ∧ Rd w' v (itI cl (i + 1)) cnt) := Lib.hid (fun A hA W' hW => by
      subst hA
      refine (RO.out W' (KB.out W' hW).2.2.2.1.rcl).mono ?_
      rintro e w' ⟨v, h1, h2, h3⟩
      exact ⟨v, h1, hW.trans (h2.mono hW.size), row_rd h3⟩)
    have hbq : ∀ m, Below W.heap.size W (W.drewN m) := fun m => below_dn (Below.refl _ _) m
    have HBQ := Lib.hid hbq
    clear hbq
    cases par <;> cases b
    all_goals
      simp only [if_true, if_false, Bool.false_eq_true, reduceCtorEq] at HI
      go_enter Try.func61, Try.ntmps61
      go_wp2
      go_quiet (fail)
      go_wp2
      go_region_held3 (fun W' => W'.cell? ⟨xb, 2, none⟩ = some (.slice (some ⟨lg, lo, none⟩) N lc) ∧ W'.cell? ⟨xb, 1, none⟩ = some (.slice (some ⟨cg, co, none⟩) N cc) ∧ Below W.heap.size W W')
        (first | exact ⟨(KB.out _ (HBQ.out (nq + 1))).1, (KB.out _ (HBQ.out (nq + 1))).2.1, HBQ.out (nq + 1)⟩ | (refine ⟨(KB.out _ ?_).1, (KB.out _ ?_).2.1, ?_⟩ <;> first | assumption | exact (HBQ.out nq).drew))
        ((first
          | (go_at_call 43; (with_reducible refine (HR1.out _ (by omega) _ (HBQ.out _)).mono ?_); rintro e w2 ⟨v2, rfl, hb2, hr2⟩)
          | (go_at_call 42; (with_reducible refine (SA.out _ _ hr2 (KB.out _ hb2).2.2.1).mono ?_); rintro e w3 ⟨rfl, rfl⟩)
          | fail))
      go_wp2_with (go_at_call 35; (with_reducible refine (HPI.out _ _ (by omega) (by have := HI.out; omega) _ (KB.out _ hb2).2.2.2.1 (KB.out _ hb2).2.2.2.2).mono ?_); rintro en w4 ⟨⟨v, rfl⟩, hf4, hr4⟩)
      go_end0
      exact ⟨⟨_, rfl⟩, (Fr.of_below (S := fun k => k ≠ gl) hb2 (fun k hk _ => hk)).trans hf4, hr4⟩
  · have b11 : ((x : Int) == 11) = false := by simp; omega
    have b10 : ((x : Int) == 10) = b := by rw [HO.out.2, if_neg h11, Bool.eq_iff_iff]; simp; omega
    cases par <;> cases b
    all_goals
      simp only [if_true, if_false, Bool.false_eq_true, reduceCtorEq] at HI
      go_enter Try.func61, Try.ntmps61
      go_wp2
      go_quiet (fail)
      go_wp2_with (go_at_call 35; (with_reducible refine (HPI.out _ _ (by omega) (by have := HI.out; omega) _ (HX.out.1.drewN nq) (HX.out.2.fr ((Fr.refl (fun _ => True) _).drewN nq) trivial)).mono ?_); rintro en w2 ⟨⟨v, rfl⟩, hf2, hr2⟩)
      go_end0
      exact ⟨⟨_, rfl⟩, ((Fr.refl _ _).drewN nq).trans hf2, hr2⟩
end Go.Proofs.Ytclblidfamabdaa
