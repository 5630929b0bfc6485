/- bidi.weak. -/
import Derived.Test.YtclblidfamabdaaBdX
import Derived.BigRegion
import Derived.RegionTactic
set_option linter.unusedVariables false
set_option linter.unusedSimpArgs false
namespace Go.Proofs.Ytclblidfamabdaa
open Go.RowKit Go.Shelf Go.Lib Go.BigFrame
attribute [local go_sem] Oper.semAt_some

theorem v1_zero (side : Nat) (l : Nat → Nat) : B.v1 side l 0 = if l 0 = 13 then side else l 0 := rfl
theorem v1_succ (side : Nat) (l : Nat → Nat) (j : Nat) : B.v1 side l (j + 1) = if l (j + 1) = 13 then (if B.isIso (B.v1 side l j) = true then 16 else B.v1 side l j) else l (j + 1) := rfl
theorem v1_le (side : Nat) (l : Nat → Nat) (hs : side ≤ 17) : ∀ j, l j ≤ 17 → (∀ k, k < j → l k ≤ 17) → B.v1 side l j ≤ 17 := by
  intro j
  induction j with
  | zero => intro h _; rw [v1_zero]; split <;> omega
  | succ j ih =>
    intro h h2
    have := ih (h2 j (Nat.lt_succ_self j)) (fun k hk => h2 k (by omega))
    rw [v1_succ]
    split
    · split <;> omega
    · exact h

set_option maxRecDepth 1000000 in
set_option maxHeartbeats 16000000 in
theorem weak_any (g n side : Nat) (l : Nat → Nat) (w : World) (hn : n ≤ 4194304) (hside : side ≤ 17) (hl : ∀ j, j < n → l j ≤ 17) (hR : Rw w g (fun j => (l j : Int)) n) :
    Calls Try.prog 59 #[.slice (some ⟨g, 0, none⟩) n n, .int .i64 (side : Int)] w fun e w' => (∃ v, e = .returned v) ∧ Fr (fun k => k ≠ g) w w' ∧ Rw w' g (fun k => (B.wk side n l k : Int)) n := by
  have hgl := hR.lt
  have H0 : Hid (Wk w g n w.heap.size (w.heap.size + 1) side (fun j => (l j : Int)) ((w.alloc (.cells #[.slice (some ⟨g, 0, none⟩) n n] 29)).alloc (.cells #[.int .i64 (side : Int)] 3))) := Lib.hid
    ⟨((Fr.refl _ _).alloc _).alloc _, cell_new2 _ _ _ _ 0 _ rfl, box_two _ _ _ _, (hR.alloc _).alloc _, by omega, by omega⟩
  obtain ⟨r1, hr1⟩ : ∃ r, B.v1 side l = r := ⟨_, rfl⟩
  have HR1 := Lib.hid hr1
  have HL := Lib.hid hl
  clear hR hl hr1
  go_enter Try.func59, Try.ntmps59
  go_upto_block 0 with fail
  go_cut [15] (fun _ wx => Wk w g n w.heap.size (w.heap.size + 1) side (fun j => (r1 j : Int)) wx)
  case first =>
    go_wp2
    go_loopw [15] (fun iv wx => ∃ i : Nat, iv = .int .i64 (i : Int) ∧ i ≤ n ∧ Wk w g n w.heap.size (w.heap.size + 1) side (pt r1 l i) wx) (fun iv _ => n - (intOf iv).toNat)
    case atStart => exact ⟨0, rfl, Nat.zero_le _, H0.out.congr (fun j _ => (pt_hi (Nat.not_lt_zero _)).symm)⟩
    case round =>
      clear H0
      obtain ⟨i, rfl, hi, hW⟩ := hrel
      by_cases hlt : i < n
      · have ck := hW.k
        have cs := hW.s
        have c0 := (hW.row.at hlt).1
        have f0 := (hW.row.at hlt).2
        rw [pt_hi (Nat.lt_irrefl i)] at c0
        have HW := Lib.hid hW
        obtain ⟨x, hx⟩ : ∃ x, l i = x := ⟨_, rfl⟩
        rw [hx] at c0
        have HX := Lib.hid hx
        clear hW hx
        by_cases h13 : x = 13
        · subst h13
          rcases Nat.eq_zero_or_pos i with hi0 | hi0
          · subst hi0
            have hv : (side : Int) = (r1 0 : Int) := by rw [← HR1.out, v1_zero, if_pos HX.out]
            have HV := Lib.hid hv
            clear hv
            go_wp2
            go_roundw
            case rel => exact ⟨0 + 1, rfl, hlt, (HW.out.set 0 _).congr (fun j _ => pt_set HV.out j)⟩
            case measure => simp [intOf]; omega
          · obtain ⟨k, rfl⟩ : ∃ k, i = k + 1 := ⟨i - 1, by omega⟩
            have c1 := (HW.out.row.at (show k < n by omega)).1
            rw [pt_lo (Nat.lt_succ_self k)] at c1
            obtain ⟨y, hy⟩ : ∃ y, r1 k = y := ⟨_, rfl⟩
            rw [hy] at c1
            have hyv : r1 (k + 1) = if B.isIso y = true then 16 else y := by rw [← hy, ← HR1.out, v1_succ, if_pos HX.out]
            have HY := Lib.hid hyv
            have e1 : (((k + 1 : Nat) : Int) - 1) = (k : Int) := by omega
            have b0 : (((k + 1 : Nat) : Int) == 0) = false := by simp; omega
            have b0' : ((k : Int) + 1 == 0) = false := by simp; omega
            clear hy hyv
            by_cases hiso : 9 ≤ y ∧ y ≤ 12
            · obtain ⟨h9, h12⟩ := hiso
              have hv : (16 : Int) = (r1 (k + 1) : Int) := by rw [HY.out, if_pos (by unfold B.isIso; simp [h9, h12])]; rfl
              have HV := Lib.hid hv
              clear hv
              go_wp2
              go_roundw
              case rel => exact ⟨k + 1 + 1, by go_num, hlt, (HW.out.set _ _).congr (fun j _ => pt_set HV.out j)⟩
              case measure => simp [intOf]; omega
            · have hv : (y : Int) = (r1 (k + 1) : Int) := by rw [HY.out, if_neg (by unfold B.isIso; simp; omega)]
              have HV := Lib.hid hv
              clear hv
              by_cases h9 : y < 9
              · clear hiso
                go_wp2
                go_region
                go_wp2
                go_roundw
                case rel => exact ⟨k + 1 + 1, by go_num, hlt, (HW.out.set _ _).drew.congr (fun j _ => pt_set HV.out j)⟩
                case measure => simp [intOf]; omega
              · have h12 : 12 < y := by omega
                have h9' : 9 ≤ y := by omega
                clear hiso h9
                go_wp2
                go_region
                go_wp2
                go_roundw
                case rel => exact ⟨k + 1 + 1, by go_num, hlt, (HW.out.set _ _).drew.congr (fun j _ => pt_set HV.out j)⟩
                case measure => simp [intOf]; omega
        · have b13 : ((x : Int) != 13) = true := by simp; omega
          have hv : r1 i = l i := by
            rw [← HR1.out]
            cases i with
            | zero => rw [v1_zero, if_neg (by rw [HX.out]; exact h13)]
            | succ i => rw [v1_succ, if_neg (by rw [HX.out]; exact h13)]
          have HV := Lib.hid hv
          clear hv
          go_wp2
          go_roundw
          case rel => exact ⟨i + 1, by go_num, hlt, HW.out.congr (fun j _ => pt_skip HV.out j)⟩
          case measure => simp [intOf]; omega
      · obtain rfl : n = i := by omega
        have HW := Lib.hid hW
        clear hW
        go_wp2
        go_meet
        exact HW.out.congr (fun j hj => pt_lo hj)
  case rest =>
    have H1 := Lib.hid hcut
    clear hcut H0
    obtain ⟨r2, hr2⟩ : ∃ r, B.v2 side r1 = r := ⟨_, rfl⟩
    have HR2 := Lib.hid hr2
    clear hr2
    have ck1 := H1.out.k
    go_upto_block 3 with fail
    clear ck1
    go_cut [60] (fun _ wx => Wk w g n w.heap.size (w.heap.size + 1) side (fun j => (r2 j : Int)) wx)
    case first =>
      go_wp2
      go_loopw [60] (fun iv wx => ∃ i : Nat, iv = .int .i64 (i : Int) ∧ i ≤ n ∧ Wk w g n w.heap.size (w.heap.size + 1) side (pt r2 r1 i) wx) (fun iv _ => n - (intOf iv).toNat)
      case atStart => exact ⟨0, rfl, Nat.zero_le _, H1.out.congr (fun j _ => (pt_hi (Nat.not_lt_zero _)).symm)⟩
      case round =>
        clear H1
        obtain ⟨i, rfl, hi, hW⟩ := hrel
        by_cases hlt : i < n
        · have ck := hW.k
          have c0 := (hW.row.at hlt).1
          have f0 := (hW.row.at hlt).2
          rw [pt_hi (Nat.lt_irrefl i)] at c0
          have hrl := hW.row.lt
          have ck2 : ∀ o, (wr.alloc o).cell? ⟨w.heap.size, 0, none⟩ = some (.slice (some ⟨g, 0, none⟩) n n) := fun o => (hW.below ((Below.refl _ _).alloc (Nat.le_refl _) o)).k
          have f2 : ∀ o, (wr.alloc o).frozen? ⟨g, i, none⟩ = false := fun o => ((hW.below ((Below.refl _ _).alloc (Nat.le_refl _) o)).row.at hlt).2
          obtain ⟨u2, hu2⟩ : ∃ u, ∀ o, (wr.alloc o).cell? ⟨g, i, none⟩ = some u := ⟨_, fun o => ((hW.below ((Below.refl _ _).alloc (Nat.le_refl _) o)).row.at hlt).1⟩
          have AH := ahead_wk (a := pn r2 r1 i) B.S3 of3 hW (fun j _ => pt_pn _ _ _ _) hn (by omega) _ _ (rd_of3 wr) has3 i hi
          have hah : B.ahd B.S3 (pn r2 r1 i) side i = B.ahd B.S3 r1 side i := (ahd_ext _ _ _ _ i (fun j hj => by rw [pn_lo hj, ← HR2.out])).trans (ahd_v2 side r1 i)
          rw [hah] at AH
          have hval : r2 i = if r1 i = 4 ∧ B.ahd B.S3 r1 side i = 14 then 5 else r1 i := by rw [← HR2.out]; rfl
          have HW := Lib.hid hW
          obtain ⟨x, hx⟩ : ∃ x, r1 i = x := ⟨_, rfl⟩
          rw [hx] at c0 hval
          obtain ⟨y, hy⟩ : ∃ y, B.ahd B.S3 r1 side i = y := ⟨_, rfl⟩
          rw [hy] at AH hval
          have HX := Lib.hid hx
          have AH := Lib.hid AH
          have HV := Lib.hid hval
          clear hW hx hah hval hy
          by_cases h4 : x = 4
          · subst h4
            by_cases h14 : y = 14
            · subst h14
              go_wp2_with (go_at_call 79; (with_reducible refine AH.out.mono ?_); rintro e w2 ⟨rfl, rfl⟩)
              go_roundw
              case rel => exact ⟨i + 1, by go_num, hlt, ((HW.out.set i 5).below ((Below.refl _ _).alloc (Nat.le_refl _) _)).congr (fun j _ => pt_set (by rw [HV.out]; rfl) j)⟩
              case measure => simp [intOf]; omega
            · have b14 : ((y : Int) == 14) = false := by simp; omega
              go_wp2_with (go_at_call 79; (with_reducible refine AH.out.mono ?_); rintro e w2 ⟨rfl, rfl⟩)
              go_roundw
              case rel => exact ⟨i + 1, by go_num, hlt, (HW.out.below ((Below.refl _ _).alloc (Nat.le_refl _) _)).congr (fun j _ => pt_skip (by rw [HV.out, if_neg (fun h => h14 h.2), HX.out]) j)⟩
              case measure => simp [intOf]; omega
          · have b4 : ((x : Int) == 4) = false := by simp; omega
            clear AH
            go_wp2
            go_roundw
            case rel => exact ⟨i + 1, by go_num, hlt, HW.out.congr (fun j _ => pt_skip (by rw [HV.out, if_neg (fun h => h4 h.1), HX.out]) j)⟩
            case measure => simp [intOf]; omega
        · obtain rfl : n = i := by omega
          have HW := Lib.hid hW
          clear hW
          go_wp2
          go_meet
          exact HW.out.congr (fun j hj => pt_lo hj)
    case rest =>
      have H2 := Lib.hid hcut
      clear hcut H1
      obtain ⟨r3, hr3⟩ : ∃ r, B.v3 r2 = r := ⟨_, rfl⟩
      have HR3 := Lib.hid hr3
      clear hr3
      have ck1 := H2.out.k
      go_upto_block 5 with fail
      clear ck1
      go_cut [81] (fun _ wx => Wk w g n w.heap.size (w.heap.size + 1) side (fun j => (r3 j : Int)) wx)
      case first =>
        go_wp2
        go_loopw [81] (fun iv wx => ∃ i : Nat, iv = .int .i64 (i : Int) ∧ i ≤ n ∧ Wk w g n w.heap.size (w.heap.size + 1) side (pt r3 r2 i) wx) (fun iv _ => n - (intOf iv).toNat)
        case atStart => exact ⟨0, rfl, Nat.zero_le _, H2.out.congr (fun j _ => (pt_hi (Nat.not_lt_zero _)).symm)⟩
        case round =>
          clear H2
          obtain ⟨i, rfl, hi, hW⟩ := hrel
          by_cases hlt : i < n
          · have ck := hW.k
            have c0 := (hW.row.at hlt).1
            have f0 := (hW.row.at hlt).2
            rw [pt_hi (Nat.lt_irrefl i)] at c0
            have hval : r3 i = if r2 i = 14 then 15 else r2 i := by rw [← HR3.out]; rfl
            have HW := Lib.hid hW
            obtain ⟨x, hx⟩ : ∃ x, r2 i = x := ⟨_, rfl⟩
            rw [hx] at c0 hval
            have HX := Lib.hid hx
            have HV := Lib.hid hval
            clear hW hx hval
            by_cases h14 : x = 14
            · subst h14
              go_wp2
              go_roundw
              case rel => exact ⟨i + 1, by go_num, hlt, (HW.out.set i 15).congr (fun j _ => pt_set (by rw [HV.out]; rfl) j)⟩
              case measure => simp [intOf]; omega
            · have b14 : ((x : Int) == 14) = false := by simp; omega
              go_wp2
              go_roundw
              case rel => exact ⟨i + 1, by go_num, hlt, HW.out.congr (fun j _ => pt_skip (by rw [HV.out, if_neg h14, HX.out]) j)⟩
              case measure => simp [intOf]; omega
          · obtain rfl : n = i := by omega
            have HW := Lib.hid hW
            clear hW
            go_wp2
            go_meet
            exact HW.out.congr (fun j hj => pt_lo hj)
      case rest =>
        have H3 := Lib.hid hcut
        clear hcut H2
        obtain ⟨r4, hr4⟩ : ∃ r, B.v4 n r3 = r := ⟨_, rfl⟩
        have HR4 := Lib.hid hr4
        clear hr4
        have ck1 := H3.out.k
        go_upto_block 7 with fail
        clear ck1
        go_cut [8] (fun _ wx => Wk w g n w.heap.size (w.heap.size + 1) side (fun j => (r4 j : Int)) wx)
        case first =>
          go_wp2
          go_loopw [8] (fun iv wx => ∃ i : Nat, iv = .int .i64 (i : Int) ∧ 1 ≤ i ∧ (i = 1 ∨ i ≤ n) ∧ Wk w g n w.heap.size (w.heap.size + 1) side (pt r4 r3 i) wx) (fun iv _ => n - (intOf iv).toNat)
          case atStart => exact ⟨1, rfl, Nat.le_refl _, .inl rfl, H3.out.congr (fun j _ => by
            unfold pt
            by_cases h : j < 1
            · obtain rfl : j = 0 := by omega
              rw [if_pos h, ← HR4.out]; rfl
            · rw [if_neg h])⟩
          case round =>
            clear H3
            obtain ⟨i, rfl, hi1, hin, hW⟩ := hrel
            by_cases hlt : i + 1 < n
            · obtain ⟨k, rfl⟩ : ∃ k, i = k + 1 := ⟨i - 1, by omega⟩
              have ck := hW.k
              have c0 := (hW.row.at (show k < n by omega)).1
              have c1 := (hW.row.at (show k + 1 < n by omega)).1
              have f1 := (hW.row.at (show k + 1 < n by omega)).2
              have c2 := (hW.row.at (show k + 2 < n by omega)).1
              rw [pt_lo (Nat.lt_succ_self k)] at c0
              rw [pt_hi (Nat.lt_irrefl _)] at c1
              rw [pt_hi (by omega)] at c2
              have hval : r4 (k + 1) = if k + 2 < n ∧ r4 k = r3 (k + 2) ∧ (r3 (k + 1) = 6 ∧ r4 k = 4 ∨ r3 (k + 1) = 8 ∧ (r4 k = 4 ∨ r4 k = 5)) then r4 k else r3 (k + 1) := by rw [← HR4.out]; rfl
              have hk2 : k + 2 < n := hlt
              have HW := Lib.hid hW
              obtain ⟨c, hc⟩ : ∃ c, r4 k = c := ⟨_, rfl⟩
              obtain ⟨x, hx⟩ : ∃ x, r3 (k + 1) = x := ⟨_, rfl⟩
              obtain ⟨y, hy⟩ : ∃ y, r3 (k + 2) = y := ⟨_, rfl⟩
              rw [hc, hx, hy] at hval
              rw [hc] at c0
              rw [hx] at c1
              rw [hy] at c2
              have HX := Lib.hid hx
              have HV := Lib.hid hval
              clear hW hc hx hy hval hin hi1
              by_cases hcy : c = y
              · subst hcy
                by_cases hx6 : x = 6
                · subst hx6
                  by_cases h4 : c = 4
                  · subst h4
                    go_wp2
                    go_roundw
                    case rel => exact ⟨k + 1 + 1, by go_num, by omega, .inr (by omega), (HW.out.set (k + 1) 4).congr (fun j _ => pt_set (by rw [HV.out, if_pos (by omega)]; rfl) j)⟩
                    case measure => simp [intOf]; omega
                  · have b4 : ((c : Int) == 4) = false := by simp; omega
                    go_wp2
                    go_roundw
                    case rel => exact ⟨k + 1 + 1, by go_num, by omega, .inr (by omega), HW.out.congr (fun j _ => pt_skip (by rw [HV.out, if_neg (by omega), HX.out]) j)⟩
                    case measure => simp [intOf]; omega
                · have b6 : ((x : Int) == 6) = false := by simp; omega
                  by_cases hx8 : x = 8
                  · subst hx8
                    by_cases h4 : c = 4
                    · subst h4
                      go_wp2
                      go_roundw
                      case rel => exact ⟨k + 1 + 1, by go_num, by omega, .inr (by omega), (HW.out.set (k + 1) 4).congr (fun j _ => pt_set (by rw [HV.out, if_pos (by omega)]; rfl) j)⟩
                      case measure => simp [intOf]; omega
                    · have b4 : ((c : Int) == 4) = false := by simp; omega
                      by_cases h5 : c = 5
                      · subst h5
                        go_wp2
                        go_roundw
                        case rel => exact ⟨k + 1 + 1, by go_num, by omega, .inr (by omega), (HW.out.set (k + 1) 5).congr (fun j _ => pt_set (by rw [HV.out, if_pos (by omega)]; rfl) j)⟩
                        case measure => simp [intOf]; omega
                      · have b5 : ((c : Int) == 5) = false := by simp; omega
                        go_wp2
                        go_roundw
                        case rel => exact ⟨k + 1 + 1, by go_num, by omega, .inr (by omega), HW.out.congr (fun j _ => pt_skip (by rw [HV.out, if_neg (by omega), HX.out]) j)⟩
                        case measure => simp [intOf]; omega
                  · have b8 : ((x : Int) == 8) = false := by simp; omega
                    go_wp2
                    go_roundw
                    case rel => exact ⟨k + 1 + 1, by go_num, by omega, .inr (by omega), HW.out.congr (fun j _ => pt_skip (by rw [HV.out, if_neg (by omega), HX.out]) j)⟩
                    case measure => simp [intOf]; omega
              · have b1 : ((c : Int) == (y : Int)) = false := by simp; omega
                go_wp2
                go_roundw
                case rel => exact ⟨k + 1 + 1, by go_num, by omega, .inr (by omega), HW.out.congr (fun j _ => pt_skip (by rw [HV.out, if_neg (by omega), HX.out]) j)⟩
                case measure => simp [intOf]; omega
            · have hge : n ≤ i + 1 := by omega
              have ck := hW.k
              have HW := Lib.hid hW
              clear hW
              go_wp2
              go_meet
              exact HW.out.congr (fun j hj => by
                by_cases h : j < i
                · exact pt_lo h
                · rw [pt_hi h]
                  obtain ⟨k, rfl⟩ : ∃ k, j = k + 1 := ⟨j - 1, by omega⟩
                  rw [← HR4.out, show B.v4 n r3 (k + 1) = if k + 2 < n ∧ B.v4 n r3 k = r3 (k + 2) ∧ (r3 (k + 1) = 6 ∧ B.v4 n r3 k = 4 ∨ r3 (k + 1) = 8 ∧ (B.v4 n r3 k = 4 ∨ B.v4 n r3 k = 5)) then B.v4 n r3 k else r3 (k + 1) from rfl, if_neg (by omega)])
        case rest =>
          have H4 := Lib.hid hcut
          clear hcut H3
          obtain ⟨r5, hr5⟩ : ∃ r, B.v5 n r4 = r := ⟨_, rfl⟩
          have HR5 := Lib.hid hr5
          have hgw : g < wc.heap.size := H4.out.row.lt
          have ST : Hid (Calls Try.prog 81 #[.slice (some ⟨g, 0, none⟩) n n, .func (.func 82) #[] #[], .func (.func 83) #[] #[.pointer (some ⟨w.heap.size, 0, none⟩)]] wc fun e w' => (∃ v, e = .returned v) ∧ Fr (fun k => k ≠ g) wc w' ∧ Rw w' g (fun k => (B.v5 n r4 k : Int)) n) := Lib.hid (by
            refine stretches_any 82 83 #[.pointer (some ⟨w.heap.size, 0, none⟩)] g n r4 B.isET (B.F5 n r4) (fun A => A.cell? ⟨w.heap.size, 0, none⟩ = some (.slice (some ⟨g, 0, none⟩) n n)) wc hn hgw ?_ H4.out.k H4.out.row enters_et enters_f5 ?_ ?_
            · intro A A' hf _ h
              exact hf.cell h (show w.heap.size ≠ g by omega)
            · intro k W hk
              exact et_any (r4 k) W
            · intro cur W i j hij hjn hC hRw h1 h2
              exact f5_any w.heap.size g n i j r4 cur W hn hij hjn hC hRw h1 h2)
          rw [hr5] at ST
          clear hr5
          obtain ⟨r6, hr6⟩ : ∃ r, B.v6 r5 = r := ⟨_, rfl⟩
          have HR6 := Lib.hid hr6
          clear hr6
          have ck1 := H4.out.k
          go_upto_block 9 with (go_at_call 81; (with_reducible refine ST.out.mono ?_); rintro e w5 ⟨⟨v5, rfl⟩, hf5, hr5'⟩; have h5 := H4.out.to hf5 hr5'; have ck5 := h5.k; have H5 := Lib.hid h5; clear h5 hf5 hr5' ck1)
          clear ck5 ST
          go_cut [147] (fun _ wx => Wk w g n w.heap.size (w.heap.size + 1) side (fun j => (r6 j : Int)) wx)
          case first =>
            go_wp2
            go_loopw [147] (fun iv wx => ∃ i : Nat, iv = .int .i64 (i : Int) ∧ i ≤ n ∧ Wk w g n w.heap.size (w.heap.size + 1) side (pt r6 r5 i) wx) (fun iv _ => n - (intOf iv).toNat)
            case atStart => exact ⟨0, rfl, Nat.zero_le _, H5.out.congr (fun j _ => (pt_hi (Nat.not_lt_zero _)).symm)⟩
            case round =>
              clear H5 H4
              obtain ⟨i, rfl, hi, hW⟩ := hrel
              by_cases hlt : i < n
              · have ck := hW.k
                have c0 := (hW.row.at hlt).1
                have f0 := (hW.row.at hlt).2
                rw [pt_hi (Nat.lt_irrefl i)] at c0
                have hval : r6 i = if r5 i = 6 ∨ r5 i = 7 ∨ r5 i = 8 then 16 else r5 i := by rw [← HR6.out]; rfl
                have HW := Lib.hid hW
                obtain ⟨x, hx⟩ : ∃ x, r5 i = x := ⟨_, rfl⟩
                rw [hx] at c0 hval
                have HX := Lib.hid hx
                have HV := Lib.hid hval
                clear hW hx hval
                by_cases h6 : x = 6
                · subst h6
                  go_wp2
                  go_roundw
                  case rel => exact ⟨i + 1, by go_num, hlt, (HW.out.set i 16).congr (fun j _ => pt_set (by rw [HV.out]; rfl) j)⟩
                  case measure => simp [intOf]; omega
                · have b6 : ((x : Int) == 6) = false := by simp; omega
                  by_cases h7 : x = 7
                  · subst h7
                    go_wp2
                    go_roundw
                    case rel => exact ⟨i + 1, by go_num, hlt, (HW.out.set i 16).congr (fun j _ => pt_set (by rw [HV.out]; rfl) j)⟩
                    case measure => simp [intOf]; omega
                  · have b7 : ((x : Int) == 7) = false := by simp; omega
                    by_cases h8 : x = 8
                    · subst h8
                      go_wp2
                      go_roundw
                      case rel => exact ⟨i + 1, by go_num, hlt, (HW.out.set i 16).congr (fun j _ => pt_set (by rw [HV.out]; rfl) j)⟩
                      case measure => simp [intOf]; omega
                    · have b8 : ((x : Int) == 8) = false := by simp; omega
                      go_wp2
                      go_roundw
                      case rel => exact ⟨i + 1, by go_num, hlt, HW.out.congr (fun j _ => pt_skip (by rw [HV.out, if_neg (by omega), HX.out]) j)⟩
                      case measure => simp [intOf]; omega
              · obtain rfl : n = i := by omega
                have HW := Lib.hid hW
                clear hW
                go_wp2
                go_meet
                exact HW.out.congr (fun j hj => pt_lo hj)
          case rest =>
            have H6 := Lib.hid hcut
            clear hcut H5 H4
            obtain ⟨r7, hr7⟩ : ∃ r, B.v7 side r6 = r := ⟨_, rfl⟩
            have HR7 := Lib.hid hr7
            clear hr7
            have ck1 := H6.out.k
            go_wp2
            go_loopw [175] (fun iv wx => ∃ i : Nat, iv = .int .i64 (i : Int) ∧ i ≤ n ∧ Wk w g n w.heap.size (w.heap.size + 1) side (pt r7 r6 i) wx) (fun iv _ => n - (intOf iv).toNat)
            case atStart => exact ⟨0, rfl, Nat.zero_le _, H6.out.congr (fun j _ => (pt_hi (Nat.not_lt_zero _)).symm)⟩
            case round =>
              clear H6 ck1
              obtain ⟨i, rfl, hi, hW⟩ := hrel
              by_cases hlt : i < n
              · have ck := hW.k
                have c0 := (hW.row.at hlt).1
                have f0 := (hW.row.at hlt).2
                rw [pt_hi (Nat.lt_irrefl i)] at c0
                have ck2 : ∀ o, (wr.alloc o).cell? ⟨w.heap.size, 0, none⟩ = some (.slice (some ⟨g, 0, none⟩) n n) := fun o => (hW.below ((Below.refl _ _).alloc (Nat.le_refl _) o)).k
                have f2 : ∀ o, (wr.alloc o).frozen? ⟨g, i, none⟩ = false := fun o => ((hW.below ((Below.refl _ _).alloc (Nat.le_refl _) o)).row.at hlt).2
                obtain ⟨u2, hu2⟩ : ∃ u, ∀ o, (wr.alloc o).cell? ⟨g, i, none⟩ = some u := ⟨_, fun o => ((hW.below ((Below.refl _ _).alloc (Nat.le_refl _) o)).row.at hlt).1⟩
                have AH := ahead_wk (a := pn r7 r6 i) B.S2 of2 hW (fun j _ => pt_pn _ _ _ _) hn (by omega) _ _ (rd_of2 wr) has2 i hi
                have hah : B.ahd B.S2 (pn r7 r6 i) side i = B.ahd B.S2 r6 side i := (ahd_ext _ _ _ _ i (fun j hj => by rw [pn_lo hj, ← HR7.out])).trans (ahd_v7 side r6 i)
                rw [hah] at AH
                have hval : r7 i = if r6 i = 4 ∧ B.ahd B.S2 r6 side i = 17 then 17 else r6 i := by rw [← HR7.out]; rfl
                have HW := Lib.hid hW
                obtain ⟨x, hx⟩ : ∃ x, r6 i = x := ⟨_, rfl⟩
                rw [hx] at c0 hval
                obtain ⟨y, hy⟩ : ∃ y, B.ahd B.S2 r6 side i = y := ⟨_, rfl⟩
                rw [hy] at AH hval
                have HX := Lib.hid hx
                have AH := Lib.hid AH
                have HV := Lib.hid hval
                clear hW hx hah hval hy
                by_cases h4 : x = 4
                · subst h4
                  by_cases h17 : y = 17
                  · subst h17
                    go_wp2_with (go_at_call 79; (with_reducible refine AH.out.mono ?_); rintro e w2 ⟨rfl, rfl⟩)
                    go_roundw
                    case rel => exact ⟨i + 1, by go_num, hlt, ((HW.out.below ((Below.refl _ _).alloc (Nat.le_refl _) _)).set i 17).congr (fun j _ => pt_set (by rw [HV.out]; rfl) j)⟩
                    case measure => simp [intOf]; omega
                  · have b17 : ((y : Int) == 17) = false := by simp; omega
                    go_wp2_with (go_at_call 79; (with_reducible refine AH.out.mono ?_); rintro e w2 ⟨rfl, rfl⟩)
                    go_roundw
                    case rel => exact ⟨i + 1, by go_num, hlt, (HW.out.below ((Below.refl _ _).alloc (Nat.le_refl _) _)).congr (fun j _ => pt_skip (by rw [HV.out, if_neg (fun h => h17 h.2), HX.out]) j)⟩
                    case measure => simp [intOf]; omega
                · have b4 : ((x : Int) == 4) = false := by simp; omega
                  clear AH
                  go_wp2
                  go_roundw
                  case rel => exact ⟨i + 1, by go_num, hlt, HW.out.congr (fun j _ => pt_skip (by rw [HV.out, if_neg (fun h => h4 h.1), HX.out]) j)⟩
                  case measure => simp [intOf]; omega
              · obtain rfl : n = i := by omega
                have HW := Lib.hid hW
                clear hW
                go_wp2
                go_end0
                refine ⟨⟨_, rfl⟩, HW.out.fr, HW.out.row.congr (fun j hj => ?_)⟩
                rw [pt_lo hj, ← HR7.out, ← HR6.out, ← HR5.out, ← HR4.out, ← HR3.out, ← HR2.out, ← HR1.out]
                rfl
end Go.Proofs.Ytclblidfamabdaa
