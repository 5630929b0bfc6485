/- The document's weak. -/
import Derived.Test.YtclblidfamabdaaG16
import Derived.Test.YtclblidfamabdaaG4
set_option linter.unusedVariables false
set_option linter.unusedSimpArgs false
namespace Go.Proofs.Ytclblidfamabdaa
open Go.RowKit Go.Shelf Go.Lib Go.BigFrame
attribute [local go_sem] Oper.semAt_some

/-- A row that is written in place; it may be empty. -/
structure Wr (w : World) (A : Option Addr) (g n : Nat) (f : Nat → Int) (wx : World) : Prop where
  fr : Fr (fun k => k ≠ g) w wx
  row : 0 < n → A = some ⟨g, 0, none⟩ ∧ Rw wx g f n
theorem Wr.congr {w wx : World} {A : Option Addr} {g n : Nat} {f h : Nat → Int} (H : Wr w A g n f wx) (e : ∀ j, j < n → f j = h j) : Wr w A g n h wx := ⟨H.fr, fun h0 => ⟨(H.row h0).1, (H.row h0).2.congr e⟩⟩
theorem Wr.set {w wx : World} {A : Option Addr} {g n : Nat} {f : Nat → Int} (H : Wr w A g n f wx) (i : Nat) (x : Int) : Wr w A g n (upd f i x) (wx.setCell ⟨g, i, none⟩ (.int .i64 x)) :=
  ⟨H.fr.setCell _ _ (fun _ hh => hh rfl), fun h0 => ⟨(H.row h0).1, (H.row h0).2.set i x⟩⟩
theorem upd_upd (f : Nat → Int) (i : Nat) (x y : Int) : upd (upd f i x) i y = upd f i y := by
  funext j; unfold upd; split <;> rfl
theorem Rw.at_set {w : World} {g n : Nat} {c : Nat → Int} (h : Rw w g c n) (i : Nat) (x : Int) {j : Nat} (hj : j < n) : (w.setCell ⟨g, i, none⟩ (.int .i64 x)).cell? ⟨g, j, none⟩ = some (.int .i64 (if j = i then x else c j)) ∧ (w.setCell ⟨g, i, none⟩ (.int .i64 x)).frozen? ⟨g, j, none⟩ = false := (h.set i x).at hj

set_option maxRecDepth 1000000 in
set_option maxHeartbeats 8000000 in
theorem weakR_any (A : Option Addr) (g n cap side : Nat) (l : Nat → Nat) (w : World) (hn : n ≤ 4194304) (hcap : n ≤ cap) (hside : side = 15 ∨ side = 17) (hR : 0 < n → A = some ⟨g, 0, none⟩ ∧ Rw w g (fun j => (l j : Int)) n) :
    Calls Try.prog 65 #[.slice A n cap, .int .i64 (side : Int)] w fun e w' => e = .returned (.slice A n cap) ∧ Wr w A g n (fun j => (B.v3 (B.v2 side (B.v1 side l)) j : Int)) w' := by
  have H0 : Hid (Wr w A g n (fun j => (l j : Int)) w) := Lib.hid ⟨Fr.refl _ _, hR⟩
  have OP := Lib.hid (fun x w => opens_any x w)
  obtain ⟨r1, hr1⟩ : ∃ r, B.v1 side l = r := ⟨_, rfl⟩
  obtain ⟨r2, hr2⟩ : ∃ r, B.v2 side r1 = r := ⟨_, rfl⟩
  obtain ⟨r3, hr3⟩ : ∃ r, B.v3 r2 = r := ⟨_, rfl⟩
  rw [hr1, hr2, hr3]
  have HR1 := Lib.hid hr1
  have HR2 := Lib.hid hr2
  have HR3 := Lib.hid hr3
  have HSD := Lib.hid (show B.isOp side = false ∧ side ≠ 12 by rcases hside with h | h <;> subst h <;> exact ⟨rfl, by decide⟩)
  clear hR hr1 hr2 hr3
  go_enter Try.func65, Try.ntmps65
  go_wp2
  go_loopw [6] (fun iv wx => ∃ i : Nat, iv = .int .i64 (i : Int) ∧ i ≤ n ∧ Wr w A g n (pt r1 l i) wx) (fun iv _ => n - (RowKit.intOf iv).toNat)
  case atStart => exact ⟨0, rfl, Nat.zero_le _, H0.out.congr (fun j _ => (pt_hi (Nat.not_lt_zero _)).symm)⟩
  case round =>
    clear H0
    obtain ⟨i, rfl, hi, hW⟩ := hrel
    by_cases hlt : i < n
    · obtain ⟨hA, hrow⟩ := hW.row (by omega)
      subst hA
      have c0 := (hrow.at hlt).1
      have f0 := (hrow.at hlt).2
      rw [pt_hi (Nat.lt_irrefl i)] at c0
      have HW := Lib.hid hW
      obtain ⟨x, hx⟩ : ∃ x, l i = x := ⟨_, rfl⟩
      rw [hx] at c0
      have HX := Lib.hid hx
      have k1 : ∀ v, (wr.setCell ⟨g, i, none⟩ (.int .i64 v)).cell? ⟨g, i, none⟩ = some (.int .i64 v) := fun v => by have := (hrow.at_set i v hlt).1; rwa [if_pos rfl] at this
      have k2 : ∀ v, (wr.setCell ⟨g, i, none⟩ (.int .i64 v)).frozen? ⟨g, i, none⟩ = false := fun v => (hrow.at_set i v hlt).2
      have k3 : ∀ v v2, ((wr.setCell ⟨g, i, none⟩ (.int .i64 v)).setCell ⟨g, i, none⟩ (.int .i64 v2)).cell? ⟨g, i, none⟩ = some (.int .i64 v2) := fun v v2 => by have := ((hrow.set i v).at_set i v2 hlt).1; rwa [if_pos rfl] at this
      have k4 : ∀ v v2, ((wr.setCell ⟨g, i, none⟩ (.int .i64 v)).setCell ⟨g, i, none⟩ (.int .i64 v2)).frozen? ⟨g, i, none⟩ = false := fun v v2 => ((hrow.set i v).at_set i v2 hlt).2
      clear hW hx
      by_cases h13 : x = 13
      · subst h13
        rcases Nat.eq_zero_or_pos i with hi0 | hi0
        · subst hi0
          have OPs := OP.out side
          rw [HSD.out.1] at OPs
          have OPs := Lib.hid OPs
          have b12 : ((side : Int) == 12) = false := by have := HSD.out.2; simp; omega
          have HV := Lib.hid (show (side : Int) = (r1 0 : Int) by rw [← HR1.out, v1_zero, if_pos HX.out])
          clear hrow
          go_wp2_with (go_at_call 62; (with_reducible refine (OPs.out _).mono ?_); rintro e w2 ⟨rfl, rfl⟩)
          go_roundw
          case rel => exact ⟨0 + 1, rfl, hlt, (HW.out.set 0 _).congr (fun j _ => pt_set HV.out j)⟩
          case measure => simp [RowKit.intOf]; omega
        · obtain ⟨k, rfl⟩ : ∃ k, i = k + 1 := ⟨i - 1, by omega⟩
          have e1 : (((k + 1 : Nat) : Int) - 1) = (k : Int) := by omega
          have k5 : (wr.setCell ⟨g, k + 1, none⟩ (.int .i64 (side : Int))).cell? ⟨g, k, none⟩ = some (.int .i64 (r1 k : Int)) := by
            have := (hrow.at_set (k + 1) (side : Int) (show k < n by omega)).1
            rwa [if_neg (by omega), pt_lo (Nat.lt_succ_self k)] at this
          obtain ⟨y, hy⟩ : ∃ y, r1 k = y := ⟨_, rfl⟩
          rw [hy] at k5
          have HY := Lib.hid (show r1 (k + 1) = if B.isIso y = true then 16 else y by rw [← hy, ← HR1.out, v1_succ, if_pos HX.out])
          have OPy := OP.out y
          obtain ⟨b, hb⟩ : ∃ b, B.isOp y = b := ⟨_, rfl⟩
          rw [hb] at OPy
          have OPy := Lib.hid OPy
          have HB := Lib.hid hb
          have hkn : k + 1 < n := hlt
          clear hrow hy hb
          cases b
          · by_cases h12 : y = 12
            · have b12 : ((y : Int) == 12) = true := by simp; omega
              have HV := Lib.hid (show (16 : Int) = (r1 (k + 1) : Int) by rw [HY.out, h12]; rfl)
              clear h12
              go_wp2_with (go_at_call 62; (with_reducible refine (OPy.out _).mono ?_); rintro e w2 ⟨rfl, rfl⟩)
              go_roundw
              case rel => exact ⟨k + 1 + 1, by go_num, hlt, (((HW.out.set (k + 1) _).set (k + 1) _).set (k + 1) _).congr (fun j _ => by rw [upd_upd, upd_upd]; exact pt_set HV.out j)⟩
              case measure => simp [RowKit.intOf]; omega
            · have b12 : ((y : Int) == 12) = false := by simp; omega
              have HV := Lib.hid (show (y : Int) = (r1 (k + 1) : Int) by
                rw [HY.out, if_neg]
                have := HB.out
                unfold B.isOp at this
                unfold B.isIso
                simp at this ⊢
                omega)
              go_wp2_with (go_at_call 62; (with_reducible refine (OPy.out _).mono ?_); rintro e w2 ⟨rfl, rfl⟩)
              go_roundw
              case rel => exact ⟨k + 1 + 1, by go_num, hlt, ((HW.out.set (k + 1) _).set (k + 1) _).congr (fun j _ => by rw [upd_upd]; exact pt_set HV.out j)⟩
              case measure => simp [RowKit.intOf]; omega
          · have HV := Lib.hid (show (16 : Int) = (r1 (k + 1) : Int) by
              rw [HY.out, if_pos]
              · rfl
              · have := HB.out
                unfold B.isOp at this
                unfold B.isIso
                simp at this ⊢
                omega)
            go_wp2_with (go_at_call 62; (with_reducible refine (OPy.out _).mono ?_); rintro e w2 ⟨rfl, rfl⟩)
            go_roundw
            case rel => exact ⟨k + 1 + 1, by go_num, hlt, (((HW.out.set (k + 1) _).set (k + 1) _).set (k + 1) _).congr (fun j _ => by rw [upd_upd, upd_upd]; exact pt_set HV.out j)⟩
            case measure => simp [RowKit.intOf]; omega
      · have b13 : ((x : Int) == 13) = false := by simp; omega
        have HV := Lib.hid (show r1 i = l i by
          rw [← HR1.out]
          cases i with
          | zero => rw [v1_zero, if_neg (by rw [HX.out]; exact h13)]
          | succ i => rw [v1_succ, if_neg (by rw [HX.out]; exact h13)])
        clear hrow
        go_wp2
        go_roundw
        case rel => exact ⟨i + 1, by go_num, hlt, HW.out.congr (fun j _ => pt_skip HV.out j)⟩
        case measure => simp [RowKit.intOf]; omega
    · obtain rfl : n = i := by omega
      have H1 : Hid (Wr w A g n (fun j => (r1 j : Int)) wr) := Lib.hid (hW.congr (fun j hj => pt_lo hj))
      clear hW
      go_wp2
      go_loopw [5, 7] (fun sv iv wx => ∃ i : Nat, iv = .int .i64 (i : Int) ∧ i ≤ n ∧ sv = .int .i64 (B.ahd B.S3 r1 side i : Int) ∧ Wr w A g n (pt r2 r1 i) wx) (fun _ iv _ => n - (RowKit.intOf iv).toNat)
      case atStart => exact ⟨0, rfl, Nat.zero_le _, rfl, H1.out.congr (fun j _ => (pt_hi (Nat.not_lt_zero _)).symm)⟩
      case round =>
        clear H1
        obtain ⟨i, rfl, hi, rfl, hW⟩ := hrel
        by_cases hlt : i < n
        · obtain ⟨hA, hrow⟩ := hW.row (by omega)
          subst hA
          have c0 := (hrow.at hlt).1
          have f0 := (hrow.at hlt).2
          rw [pt_hi (Nat.lt_irrefl i)] at c0
          have HW := Lib.hid hW
          have HAH : Hid (B.ahd B.S3 r1 side (i + 1) = if B.S3 (r1 i) = true then r1 i else B.ahd B.S3 r1 side i) := Lib.hid rfl
          have hval : r2 i = if r1 i = 4 ∧ B.ahd B.S3 r1 side i = 14 then 5 else r1 i := by rw [← HR2.out]; rfl
          obtain ⟨x, hx⟩ : ∃ x, r1 i = x := ⟨_, rfl⟩
          obtain ⟨y, hy⟩ : ∃ y, B.ahd B.S3 r1 side i = y := ⟨_, rfl⟩
          rw [hx, hy] at HAH hval
          rw [hx] at c0
          rw [hy]
          have HX := Lib.hid hx
          have HV := Lib.hid hval
          have k1 : ∀ v, (wr.setCell ⟨g, i, none⟩ (.int .i64 v)).cell? ⟨g, i, none⟩ = some (.int .i64 v) := fun v => by have := (hrow.at_set i v hlt).1; rwa [if_pos rfl] at this
          clear hW hx hval hy hrow
          by_cases h4 : x = 4
          · subst h4
            by_cases h14 : y = 14
            · subst h14
              go_wp2
              go_roundw
              case rel => exact ⟨i + 1, by go_num, hlt, by rw [HAH.out]; rfl, (HW.out.set i 5).congr (fun j _ => pt_set (by rw [HV.out]; rfl) j)⟩
              case measure => simp [RowKit.intOf]; omega
            · have b14 : ((y : Int) == 14) = false := by simp; omega
              go_wp2
              go_roundw
              case rel => exact ⟨i + 1, by go_num, hlt, by rw [HAH.out]; rfl, HW.out.congr (fun j _ => pt_skip (by rw [HV.out, if_neg (fun h => h14 h.2), HX.out]) j)⟩
              case measure => simp [RowKit.intOf]; omega
          · have b4 : ((x : Int) == 4) = false := by simp; omega
            have HV2 := Lib.hid (show r2 i = r1 i by rw [HV.out, if_neg (fun h => h4 h.1), HX.out])
            by_cases h3 : x = 17 ∨ x = 15 ∨ x = 14
            · rcases h3 with rfl | rfl | rfl
              all_goals (
                go_wp2
                go_roundw
                case rel => exact ⟨i + 1, by go_num, hlt, by rw [HAH.out]; rfl, HW.out.congr (fun j _ => pt_skip HV2.out j)⟩
                case measure => simp [RowKit.intOf]; omega)
            · have b1 : ((x : Int) == 17) = false := by simp; omega
              have b2 : ((x : Int) == 15) = false := by simp; omega
              have b3 : ((x : Int) == 14) = false := by simp; omega
              have HS := Lib.hid (show B.S3 x = false by simp [B.S3]; omega)
              go_wp2
              go_roundw
              case rel => exact ⟨i + 1, by go_num, hlt, by rw [HAH.out, HS.out]; rfl, HW.out.congr (fun j _ => pt_skip HV2.out j)⟩
              case measure => simp [RowKit.intOf]; omega
        · obtain rfl : n = i := by omega
          have H2 : Hid (Wr w A g n (fun j => (r2 j : Int)) wr) := Lib.hid (hW.congr (fun j hj => pt_lo hj))
          clear hW
          go_wp2
          go_loopw [8] (fun iv wx => ∃ i : Nat, iv = .int .i64 (i : Int) ∧ i ≤ n ∧ Wr w A g n (pt r3 r2 i) wx) (fun iv _ => n - (RowKit.intOf iv).toNat)
          case atStart => exact ⟨0, rfl, Nat.zero_le _, H2.out.congr (fun j _ => (pt_hi (Nat.not_lt_zero _)).symm)⟩
          case round =>
            clear H2
            obtain ⟨i, rfl, hi, hW⟩ := hrel
            by_cases hlt : i < n
            · obtain ⟨hA, hrow⟩ := hW.row (by omega)
              subst hA
              have c0 := (hrow.at hlt).1
              have f0 := (hrow.at hlt).2
              rw [pt_hi (Nat.lt_irrefl i)] at c0
              have hval : r3 i = if r2 i = 14 then 15 else r2 i := by rw [← HR3.out]; rfl
              have HW := Lib.hid hW
              obtain ⟨x, hx⟩ : ∃ x, r2 i = x := ⟨_, rfl⟩
              rw [hx] at c0 hval
              have HX := Lib.hid hx
              have HV := Lib.hid hval
              clear hW hx hval hrow
              by_cases h14 : x = 14
              · subst h14
                go_wp2
                go_roundw
                case rel => exact ⟨i + 1, by go_num, hlt, (HW.out.set i 15).congr (fun j _ => pt_set (by rw [HV.out]; rfl) j)⟩
                case measure => simp [RowKit.intOf]; omega
              · have b14 : ((x : Int) == 14) = false := by simp; omega
                go_wp2
                go_roundw
                case rel => exact ⟨i + 1, by go_num, hlt, HW.out.congr (fun j _ => pt_skip (by rw [HV.out, if_neg h14, HX.out]) j)⟩
                case measure => simp [RowKit.intOf]; omega
            · obtain rfl : n = i := by omega
              have H3 : Hid (Wr w A g n (fun j => (r3 j : Int)) wr) := Lib.hid (hW.congr (fun j hj => pt_lo hj))
              clear hW
              go_wp2
              go_ret
              exact ⟨rfl, H3.out⟩
end Go.Proofs.Ytclblidfamabdaa

/- The document's numbers. -/
set_option linter.unusedVariables false
set_option linter.unusedSimpArgs false
namespace Go.Proofs.Ytclblidfamabdaa
open Go.RowKit Go.Shelf Go.Lib Go.BigFrame
attribute [local go_sem] Oper.semAt_some

theorem ahd2_v7 (side : Nat) (l : Nat → Nat) (i : Nat) : B.ahd B.S2 (B.v6 l) side i = B.ahd B.S2 l side i :=
  ahd_congr B.S2 side _ _ i (fun j _ => by
    unfold B.v6
    split
    · rename_i h
      rcases h with h | h | h <;> rw [h] <;> exact ⟨rfl, fun h => by cases h⟩
    · exact ⟨rfl, fun _ => rfl⟩)
/-- Both at once. -/
def v67 (side : Nat) (l : Nat → Nat) (i : Nat) : Nat := if l i = 6 ∨ l i = 7 ∨ l i = 8 then 16 else if l i = 4 ∧ B.ahd B.S2 l side i = 17 then 17 else l i
theorem v67_eq (side : Nat) (l : Nat → Nat) : v67 side l = B.v7 side (B.v6 l) := by
  funext i
  unfold v67 B.v7
  rw [ahd2_v7]
  unfold B.v6
  by_cases h : l i = 6 ∨ l i = 7 ∨ l i = 8
  · rw [if_pos h, if_pos h]; rfl
  · rw [if_neg h, if_neg h]

set_option maxRecDepth 1000000 in
set_option maxHeartbeats 16000000 in
theorem numbersR_any (A : Option Addr) (g n cap side : Nat) (l : Nat → Nat) (w : World) (hn : n ≤ 4194304) (hcap : n ≤ cap) (hR : 0 < n → A = some ⟨g, 0, none⟩ ∧ Rw w g (fun j => (l j : Int)) n) :
    Calls Try.prog 64 #[.slice A n cap, .int .i64 (side : Int)] w fun e w' => e = .returned (.slice A n cap) ∧ Wr w A g n (fun j => (B.v7 side (B.v6 (B.v5 n (B.v4 n l))) j : Int)) w' := by
  have H3 : Hid (Wr w A g n (fun j => (l j : Int)) w) := Lib.hid ⟨Fr.refl _ _, hR⟩
  obtain ⟨r4, hr4⟩ : ∃ r, B.v4 n l = r := ⟨_, rfl⟩
  obtain ⟨r5, hr5⟩ : ∃ r, B.v5 n r4 = r := ⟨_, rfl⟩
  obtain ⟨r7, hr7⟩ : ∃ r, v67 side r5 = r := ⟨_, rfl⟩
  rw [hr4, hr5, ← v67_eq, hr7]
  have HR4 := Lib.hid hr4
  have HR5 := Lib.hid (show B.ov B.isET (B.F5 n r4) n r4 = r5 from hr5)
  have HR7 := Lib.hid hr7
  clear hR hr4 hr5 hr7
  go_enter Try.func64, Try.ntmps64
  go_wp2
  go_loopw [5] (fun iv wx => ∃ i : Nat, iv = .int .i64 (i : Int) ∧ 1 ≤ i ∧ (i = 1 ∨ i ≤ n) ∧ Wr w A g n (pt r4 l i) wx) (fun iv _ => n - (RowKit.intOf iv).toNat)
  case atStart => exact ⟨1, rfl, Nat.le_refl _, .inl rfl, H3.out.congr (fun j _ => by
    unfold pt
    by_cases h : j < 1
    · obtain rfl : j = 0 := by omega
      rw [if_pos h, ← HR4.out]; rfl
    · rw [if_neg h])⟩
  case round =>
    clear H3
    obtain ⟨i, rfl, hi1, hin, hW⟩ := hrel
    by_cases hlt : i + 1 < n
    · obtain ⟨k, rfl⟩ : ∃ k, i = k + 1 := ⟨i - 1, by omega⟩
      obtain ⟨hA, hrow⟩ := hW.row (by omega)
      subst hA
      have c0 := (hrow.at (show k < n by omega)).1
      have c1 := (hrow.at (show k + 1 < n by omega)).1
      have f1 := (hrow.at (show k + 1 < n by omega)).2
      have c2 := (hrow.at (show k + 2 < n by omega)).1
      rw [pt_lo (Nat.lt_succ_self k)] at c0
      rw [pt_hi (Nat.lt_irrefl _)] at c1
      rw [pt_hi (by omega)] at c2
      have hval : r4 (k + 1) = if k + 2 < n ∧ r4 k = l (k + 2) ∧ (l (k + 1) = 6 ∧ r4 k = 4 ∨ l (k + 1) = 8 ∧ (r4 k = 4 ∨ r4 k = 5)) then r4 k else l (k + 1) := by rw [← HR4.out]; rfl
      have hk2 : k + 2 < n := hlt
      have HW := Lib.hid hW
      obtain ⟨c, hc⟩ : ∃ c, r4 k = c := ⟨_, rfl⟩
      obtain ⟨x, hx⟩ : ∃ x, l (k + 1) = x := ⟨_, rfl⟩
      obtain ⟨y, hy⟩ : ∃ y, l (k + 2) = y := ⟨_, rfl⟩
      rw [hc, hx, hy] at hval
      rw [hc] at c0
      rw [hx] at c1
      rw [hy] at c2
      have HX := Lib.hid hx
      have HV := Lib.hid hval
      have e1 : (((k + 1 : Nat) : Int) - 1) = (k : Int) := by omega
      clear hW hrow hc hx hy hval hin hi1
      by_cases hcy : c = y
      · subst hcy
        by_cases hx6 : x = 6
        · subst hx6
          by_cases h4 : c = 4
          · subst h4
            go_wp2
            go_roundw
            case rel => exact ⟨k + 1 + 1, by go_num, by omega, .inr (by omega), (HW.out.set (k + 1) 4).congr (fun j _ => pt_set (by rw [HV.out, if_pos (by omega)]; rfl) j)⟩
            case measure => simp [RowKit.intOf]; omega
          · have b4 : ((c : Int) == 4) = false := by simp; omega
            go_wp2
            go_roundw
            case rel => exact ⟨k + 1 + 1, by go_num, by omega, .inr (by omega), HW.out.congr (fun j _ => pt_skip (by rw [HV.out, if_neg (by omega), HX.out]) j)⟩
            case measure => simp [RowKit.intOf]; omega
        · have b6 : ((x : Int) == 6) = false := by simp; omega
          by_cases hx8 : x = 8
          · subst hx8
            by_cases h4 : c = 4
            · subst h4
              go_wp2
              go_roundw
              case rel => exact ⟨k + 1 + 1, by go_num, by omega, .inr (by omega), (HW.out.set (k + 1) 4).congr (fun j _ => pt_set (by rw [HV.out, if_pos (by omega)]; rfl) j)⟩
              case measure => simp [RowKit.intOf]; omega
            · have b4 : ((c : Int) == 4) = false := by simp; omega
              by_cases h5 : c = 5
              · subst h5
                go_wp2
                go_roundw
                case rel => exact ⟨k + 1 + 1, by go_num, by omega, .inr (by omega), (HW.out.set (k + 1) 5).congr (fun j _ => pt_set (by rw [HV.out, if_pos (by omega)]; rfl) j)⟩
                case measure => simp [RowKit.intOf]; omega
              · have b5 : ((c : Int) == 5) = false := by simp; omega
                go_wp2
                go_roundw
                case rel => exact ⟨k + 1 + 1, by go_num, by omega, .inr (by omega), HW.out.congr (fun j _ => pt_skip (by rw [HV.out, if_neg (by omega), HX.out]) j)⟩
                case measure => simp [RowKit.intOf]; omega
          · have b8 : ((x : Int) == 8) = false := by simp; omega
            go_wp2
            go_roundw
            case rel => exact ⟨k + 1 + 1, by go_num, by omega, .inr (by omega), HW.out.congr (fun j _ => pt_skip (by rw [HV.out, if_neg (by omega), HX.out]) j)⟩
            case measure => simp [RowKit.intOf]; omega
      · have b1 : ((c : Int) == (y : Int)) = false := by simp; omega
        go_wp2
        go_roundw
        case rel => exact ⟨k + 1 + 1, by go_num, by omega, .inr (by omega), HW.out.congr (fun j _ => pt_skip (by rw [HV.out, if_neg (by omega), HX.out]) j)⟩
        case measure => simp [RowKit.intOf]; omega
    · have hge : n ≤ i + 1 := by omega
      have H4 : Hid (Wr w A g n (fun j => (r4 j : Int)) wr) := Lib.hid (hW.congr (fun j hj => by
        by_cases h : j < i
        · exact pt_lo h
        · rw [pt_hi h]
          obtain ⟨k, rfl⟩ : ∃ k, j = k + 1 := ⟨j - 1, by omega⟩
          rw [← HR4.out, show B.v4 n l (k + 1) = if k + 2 < n ∧ B.v4 n l k = l (k + 2) ∧ (l (k + 1) = 6 ∧ B.v4 n l k = 4 ∨ l (k + 1) = 8 ∧ (B.v4 n l k = 4 ∨ B.v4 n l k = 5)) then B.v4 n l k else l (k + 1) from rfl, if_neg (by omega)]))
      clear hW
      go_wp2
      go_loopw [7] (fun iv wx => ∃ i : Nat, iv = .int .i64 (i : Int) ∧ i ≤ n ∧ Wr w A g n (pt r5 r4 i) wx ∧ (i = 0 ∨ B.isET (r4 (i - 1)) = false ∨ (i < n → B.isET (r4 i) = false))) (fun iv _ => n - (RowKit.intOf iv).toNat)
      case atStart => exact ⟨0, rfl, Nat.zero_le _, H4.out.congr (fun j _ => (pt_hi (Nat.not_lt_zero _)).symm), .inl rfl⟩
      case round =>
        clear H4 hi1 hin hlt hge
        obtain ⟨i, rfl, hi, hW, hside⟩ := hrel
        by_cases hlt : i < n
        · obtain ⟨hA, hrow⟩ := hW.row (by omega)
          subst hA
          have HX := Lib.hid (And.intro hW (And.intro hrow hside))
          clear hW hrow hside
          go_upto_block 4 with fail
          go_cut [8] (fun jv wx => ∃ j : Nat, jv = .int .i64 (j : Int) ∧ wx = wr ∧ i ≤ j ∧ j ≤ n ∧ (∀ k, i ≤ k → k < j → B.isET (r4 k) = true) ∧ (j < n → B.isET (r4 j) = false))
          case first =>
            go_wp2
            go_loopw [8] (fun jv wx => ∃ j : Nat, jv = .int .i64 (j : Int) ∧ wx = wr ∧ i ≤ j ∧ j ≤ n ∧ (∀ k, i ≤ k → k < j → B.isET (r4 k) = true)) (fun jv _ => n - (RowKit.intOf jv).toNat)
            case atStart => exact ⟨i, rfl, rfl, Nat.le_refl _, hi, fun k h1 h2 => by omega⟩
            case round =>
              obtain ⟨j, rfl, rfl, hij, hjn, hall⟩ := hrel
              have HA := Lib.hid hall
              clear hall
              by_cases hjl : j < n
              · have c0 := (HX.out.2.1.at hjl).1
                rw [pt_hi (by omega)] at c0
                obtain ⟨x, hx⟩ : ∃ x, r4 j = x := ⟨_, rfl⟩
                rw [hx] at c0
                have HXX := Lib.hid hx
                clear hx
                by_cases h7 : x = 7
                · subst h7
                  go_wp2
                  go_roundw
                  case rel =>
                    refine ⟨j + 1, by go_num, by trivial, by omega, hjl, fun k h1 h2 => ?_⟩
                    rcases Nat.lt_or_ge k j with h | h
                    · exact HA.out k h1 h
                    · obtain rfl : k = j := by omega
                      rw [HXX.out]; rfl
                  case measure => simp [RowKit.intOf]; omega
                · have b7 : ((x : Int) == 7) = false := by simp; omega
                  go_wp2
                  go_meet
                  exact ⟨j, rfl, rfl, hij, hjn, HA.out, fun _ => by rw [HXX.out]; exact decide_eq_false h7⟩
              · go_wp2
                go_meet
                exact ⟨j, rfl, rfl, hij, hjn, HA.out, fun h => absurd h hjl⟩
          case rest =>
            obtain ⟨j, rfl, rfl, hij, hjn, hall, hend⟩ := hcut
            have hrg : B.rgt B.isET r4 n i = j := B.rgt_is B.isET r4 n i j hij hjn hall hend
            have HJ := Lib.hid (And.intro hall (And.intro hend hrg))
            clear hall hend hrg
            obtain ⟨w5, hw5⟩ : ∃ x, x = wc := ⟨_, rfl⟩
            subst hw5
            have hside : i < j → i = 0 ∨ B.isET (r4 (i - 1)) = false := fun hj => by
              rcases HX.out.2.2 with h | h | h
              · exact .inl h
              · exact .inr h
              · have := h hlt; rw [HJ.out.1 i (Nat.le_refl _) hj] at this; cases this
            have hov : ∀ k, i ≤ k → k < j → r5 k = B.F5 n r4 i j := fun k h1 h2 => by rw [← HR5.out]; exact B.ov_in B.isET (B.F5 n r4) n r4 i j k (hside (by omega)) HJ.out.2.2 hi h1 h2
            have hov0 : i < j → 0 < i → r5 (i - 1) = r4 (i - 1) := fun hj h0 => by
              rw [← HR5.out]
              rcases hside hj with h | h
              · omega
              · unfold B.ov; rw [if_neg (by simp [h])]
            have hall7 : ∀ k, i ≤ k → k < j → r4 k = 7 := fun k h1 h2 => by have := HJ.out.1 k h1 h2; unfold B.isET at this; exact of_decide_eq_true this
            have HF := Lib.hid (show B.F5 n r4 i j = if (0 < i ∧ r4 (i - 1) = 4) ∨ (j < n ∧ r4 j = 4) then 4 else 7 from rfl)
            have HO := Lib.hid (And.intro hov hall7)
            have KI := Lib.hid (fun (hj : i < j) (h0 : 0 < i) => (show w5.cell? ⟨g, i - 1, none⟩ = some (.int .i64 (r4 (i - 1) : Int)) by have := (HX.out.2.1.at (show i - 1 < n by omega)).1; rwa [pt_lo (by omega), hov0 hj h0] at this))
            clear hside hov hov0 hall7
            obtain ⟨b, hb⟩ : ∃ b, decide (i < j ∧ ((0 < i ∧ r4 (i - 1) = 4) ∨ (j < n ∧ r4 j = 4))) = b := ⟨_, rfl⟩
            have HB := Lib.hid hb
            clear hb
            go_upto_region 13 with fail
            go_cut [108] (fun bv wx => bv = .bool b ∧ wx = w5)
            case first =>
              by_cases hj : i < j
              · have d1 : decide (i < j) = true := decide_eq_true hj
                rcases Nat.eq_zero_or_pos i with hi0 | hi0
                · subst hi0
                  clear KI
                  by_cases hjl : j < n
                  · have c2 := (HX.out.2.1.at hjl).1
                    rw [pt_hi (by omega)] at c2
                    obtain ⟨x, hx⟩ : ∃ x, r4 j = x := ⟨_, rfl⟩
                    rw [hx] at c2 HB
                    by_cases hx4 : x = 4
                    · subst hx4
                      clear hx
                      go_wp2
                      go_meet
                      exact ⟨by rw [show b = true from HB.out.symm.trans (decide_eq_true ⟨by omega, .inr ⟨by omega, by trivial⟩⟩)], rfl⟩
                    · have b4 : ((x : Int) == 4) = false := by simp; omega
                      clear hx
                      go_wp2
                      go_meet
                      exact ⟨by rw [show b = false from HB.out.symm.trans (decide_eq_false (by omega))], rfl⟩
                  · have d2 : decide (j < n) = false := decide_eq_false hjl
                    go_wp2
                    go_meet
                    exact ⟨by rw [show b = false from HB.out.symm.trans (decide_eq_false (by omega))], rfl⟩
                · obtain ⟨k, rfl⟩ : ∃ k, i = k + 1 := ⟨i - 1, by omega⟩
                  have c1 := KI.out hj hi0
                  rw [show k + 1 - 1 = k from rfl] at c1 HB
                  have e1 : (((k + 1 : Nat) : Int) - 1) = (k : Int) := by omega
                  obtain ⟨p, hp⟩ : ∃ p, r4 k = p := ⟨_, rfl⟩
                  rw [hp] at c1 HB
                  clear KI hp
                  by_cases hp4 : p = 4
                  · subst hp4
                    go_wp2
                    go_meet
                    exact ⟨by rw [show b = true from HB.out.symm.trans (decide_eq_true ⟨by omega, .inl ⟨by omega, by trivial⟩⟩)], rfl⟩
                  · have bp : ((p : Int) == 4) = false := by simp; omega
                    by_cases hjl : j < n
                    · have c2 := (HX.out.2.1.at hjl).1
                      rw [pt_hi (by omega)] at c2
                      obtain ⟨x, hx⟩ : ∃ x, r4 j = x := ⟨_, rfl⟩
                      rw [hx] at c2 HB
                      by_cases hx4 : x = 4
                      · subst hx4
                        clear hx
                        go_wp2
                        go_meet
                        exact ⟨by rw [show b = true from HB.out.symm.trans (decide_eq_true ⟨by omega, .inr ⟨by omega, by trivial⟩⟩)], rfl⟩
                      · have b4 : ((x : Int) == 4) = false := by simp; omega
                        clear hx
                        go_wp2
                        go_meet
                        exact ⟨by rw [show b = false from HB.out.symm.trans (decide_eq_false (by omega))], rfl⟩
                    · have d2 : decide (j < n) = false := decide_eq_false hjl
                      go_wp2
                      go_meet
                      exact ⟨by rw [show b = false from HB.out.symm.trans (decide_eq_false (by omega))], rfl⟩
              · have d1 : decide (i < j) = false := decide_eq_false hj
                go_wp2
                go_meet
                exact ⟨by rw [show b = false from HB.out.symm.trans (decide_eq_false (by omega))], rfl⟩
            case rest =>
              obtain ⟨rfl, rfl⟩ := hcut
              cases b
              · by_cases hj : i < j
                · have HF7 := Lib.hid (show B.F5 n r4 i j = 7 by rw [HF.out, if_neg (fun h => absurd HB.out (by rw [decide_eq_true (And.intro hj h)]; exact Bool.noConfusion))])
                  have HWJ := Lib.hid (HX.out.1.congr (h := pt r5 r4 j) (fun k hk => by
                    unfold pt
                    by_cases h1 : k < i
                    · rw [if_pos h1, if_pos (by omega)]
                    · rw [if_neg h1]
                      by_cases h2 : k < j
                      · rw [if_pos h2, HO.out.1 k (by omega) h2, HF7.out, HO.out.2 k (by omega) h2]
                      · rw [if_neg h2]))
                  have e2 : (((j : Int) - 1) + 1) = (j : Int) := by omega
                  have d1 : decide (i < j) = true := decide_eq_true hj
                  go_wp2
                  go_roundw
                  case rel => exact ⟨j, by first | rfl | go_num, hjn, HWJ.out, .inr (.inr HJ.out.2.1)⟩
                  case measure => simp [RowKit.intOf]; omega
                · obtain rfl : i = j := by omega
                  have HE := Lib.hid (HJ.out.2.1 hlt)
                  go_wp2
                  go_roundw
                  case rel => exact ⟨i + 1, by go_num, hlt, HX.out.1.congr (fun k _ => pt_skip (by rw [← HR5.out]; unfold B.ov; rw [if_neg (by simp [HE.out])]) k), .inr (.inl HE.out)⟩
                  case measure => simp [RowKit.intOf]; omega
              · have hbb := of_decide_eq_true HB.out
                have hj := hbb.1
                have HF4 := Lib.hid (show B.F5 n r4 i j = 4 by rw [HF.out, if_pos hbb.2])
                clear hbb
                have e2 : (((j : Int) - 1) + 1) = (j : Int) := by omega
                go_wp2
                go_loopw [9] (fun qv wx => ∃ q : Nat, qv = .int .i64 (q : Int) ∧ i ≤ q ∧ q ≤ j ∧ Wr w (some ⟨g, 0, none⟩) g n (pt r5 r4 q) wx) (fun qv _ => j - (RowKit.intOf qv).toNat)
                case atStart => exact ⟨i, by first | rfl | go_num, Nat.le_refl _, by omega, HX.out.1⟩
                case round =>
                  obtain ⟨q, rfl, hiq, hqj, hWq⟩ := hrel
                  by_cases hql : q < j
                  · have f0 := ((hWq.row (by omega)).2.at (show q < n by omega)).2
                    obtain ⟨u0, c0⟩ : ∃ u, wr.cell? ⟨g, q, none⟩ = some u := ⟨_, ((hWq.row (by omega)).2.at (show q < n by omega)).1⟩
                    have HQ := Lib.hid hWq
                    clear hWq
                    go_wp2
                    go_roundw
                    case rel => exact ⟨q + 1, by go_num, by omega, hql, (HQ.out.set q 4).congr (fun k _ => pt_set (by rw [HO.out.1 q hiq hql, HF4.out]; rfl) k)⟩
                    case measure => simp [RowKit.intOf]; omega
                  · obtain rfl : j = q := by omega
                    have HQ := Lib.hid hWq
                    clear hWq
                    go_wp2
                    go_roundw
                    case rel => exact ⟨j, by first | rfl | go_num, hjn, HQ.out, .inr (.inr HJ.out.2.1)⟩
                    case measure => simp [RowKit.intOf]; omega
        · obtain rfl : n = i := by omega
          have H5 : Hid (Wr w A g n (fun j => (r5 j : Int)) wr) := Lib.hid (hW.congr (fun j hj => pt_lo hj))
          clear hW hside
          go_wp2
          go_loopw [10, 11] (fun sv iv wx => ∃ i : Nat, iv = .int .i64 (i : Int) ∧ i ≤ n ∧ sv = .int .i64 (B.ahd B.S2 r5 side i : Int) ∧ Wr w A g n (pt r7 r5 i) wx) (fun _ iv _ => n - (RowKit.intOf iv).toNat)
          case atStart => exact ⟨0, rfl, Nat.zero_le _, rfl, H5.out.congr (fun j _ => (pt_hi (Nat.not_lt_zero _)).symm)⟩
          case round =>
            clear H5
            obtain ⟨i, rfl, hi, rfl, hW⟩ := hrel
            by_cases hlt : i < n
            · obtain ⟨hA, hrow⟩ := hW.row (by omega)
              subst hA
              have c0 := (hrow.at hlt).1
              have f0 := (hrow.at hlt).2
              rw [pt_hi (Nat.lt_irrefl i)] at c0
              have HW := Lib.hid hW
              have HAH : Hid (B.ahd B.S2 r5 side (i + 1) = if B.S2 (r5 i) = true then r5 i else B.ahd B.S2 r5 side i) := Lib.hid rfl
              have hval : r7 i = if r5 i = 6 ∨ r5 i = 7 ∨ r5 i = 8 then 16 else if r5 i = 4 ∧ B.ahd B.S2 r5 side i = 17 then 17 else r5 i := by rw [← HR7.out]; rfl
              obtain ⟨x, hx⟩ : ∃ x, r5 i = x := ⟨_, rfl⟩
              obtain ⟨y, hy⟩ : ∃ y, B.ahd B.S2 r5 side i = y := ⟨_, rfl⟩
              rw [hx, hy] at HAH hval
              rw [hx] at c0
              rw [hy]
              have HX := Lib.hid hx
              have HV := Lib.hid hval
              clear hW hx hval hy hrow
              by_cases h3 : x = 6 ∨ x = 7 ∨ x = 8
              · rcases h3 with rfl | rfl | rfl
                all_goals (
                  go_wp2
                  go_roundw
                  case rel => exact ⟨i + 1, by go_num, hlt, by rw [HAH.out]; rfl, (HW.out.set i 16).congr (fun j _ => pt_set (by rw [HV.out]; rfl) j)⟩
                  case measure => simp [RowKit.intOf]; omega)
              · have b6 : ((x : Int) == 6) = false := by simp; omega
                have b7 : ((x : Int) == 7) = false := by simp; omega
                have b8 : ((x : Int) == 8) = false := by simp; omega
                by_cases h2 : x = 17 ∨ x = 15
                · have HV2 := Lib.hid (show r7 i = r5 i by rw [HV.out, if_neg h3, if_neg (by omega), HX.out])
                  clear h3 b6 b7 b8
                  rcases h2 with rfl | rfl
                  all_goals (
                    go_wp2
                    go_roundw
                    case rel => exact ⟨i + 1, by go_num, hlt, by rw [HAH.out]; rfl, HW.out.congr (fun j _ => pt_skip HV2.out j)⟩
                    case measure => simp [RowKit.intOf]; omega)
                · have b17 : ((x : Int) == 17) = false := by simp; omega
                  have b15 : ((x : Int) == 15) = false := by simp; omega
                  have HS := Lib.hid (show B.S2 x = false by simp [B.S2]; omega)
                  by_cases h4 : x = 4
                  · subst h4
                    by_cases hy17 : y = 17
                    · subst hy17
                      go_wp2
                      go_roundw
                      case rel => exact ⟨i + 1, by go_num, hlt, by rw [HAH.out]; rfl, (HW.out.set i 17).congr (fun j _ => pt_set (by rw [HV.out]; rfl) j)⟩
                      case measure => simp [RowKit.intOf]; omega
                    · have by17 : ((y : Int) == 17) = false := by simp; omega
                      go_wp2
                      go_roundw
                      case rel => exact ⟨i + 1, by go_num, hlt, by rw [HAH.out]; rfl, HW.out.congr (fun j _ => pt_skip (by rw [HV.out, if_neg (by omega), if_neg (by omega), HX.out]) j)⟩
                      case measure => simp [RowKit.intOf]; omega
                  · have b4 : ((x : Int) == 4) = false := by simp; omega
                    have HV2 := Lib.hid (show r7 i = r5 i by rw [HV.out, if_neg h3, if_neg (by omega), HX.out])
                    go_wp2
                    go_roundw
                    case rel => exact ⟨i + 1, by go_num, hlt, by rw [HAH.out, HS.out]; rfl, HW.out.congr (fun j _ => pt_skip HV2.out j)⟩
                    case measure => simp [RowKit.intOf]; omega
            · obtain rfl : n = i := by omega
              have H7 : Hid (Wr w A g n (fun j => (r7 j : Int)) wr) := Lib.hid (hW.congr (fun j hj => pt_lo hj))
              clear hW
              go_wp2
              go_ret
              exact ⟨rfl, H7.out⟩
end Go.Proofs.Ytclblidfamabdaa
