/- The document's Class and Mirror. -/
import Derived.Test.YtclblidfamabdaaG15
set_option linter.unusedVariables false
set_option linter.unusedSimpArgs false
namespace Go.Proofs.Ytclblidfamabdaa
open Go.RowKit Go.Shelf Go.Lib Go.BigFrame
attribute [local go_sem] Oper.semAt_some

theorem flR_len (l : List (Int × Int)) : (flR l).length = 2 * l.length := by
  induction l with
  | nil => rfl
  | cons a l ih => rw [show flR (a :: l) = a.1 :: a.2 :: flR l from rfl, List.length_cons, List.length_cons, ih, List.length_cons]; omega
theorem flR_at (l : List (Int × Int)) : ∀ q, q < l.length → lI (flR l) (2 * q) = (l.getD q (0, 0)).1 ∧ lI (flR l) (2 * q + 1) = (l.getD q (0, 0)).2 := by
  induction l with
  | nil => intro q h; exact absurd h (Nat.not_lt_zero _)
  | cons a l ih =>
    intro q h
    have e : flR (a :: l) = a.1 :: a.2 :: flR l := rfl
    cases q with
    | zero => rw [e]; exact ⟨rfl, rfl⟩
    | succ q =>
      rw [e, show 2 * (q + 1) = 2 * q + 1 + 1 by omega]
      have := ih q (by simpa using h)
      exact this
theorem inR_no (l : List (Int × Int)) (r : Int) (h : ∀ q, q < l.length → ¬ ((l.getD q (0, 0)).1 ≤ r ∧ r ≤ (l.getD q (0, 0)).2)) : C.inR l r = false := by
  unfold C.inR
  rw [List.any_eq_false]
  intro p hp
  obtain ⟨q, hq, e⟩ := List.mem_iff_getElem.1 hp
  have := h q hq
  rw [List.getD_eq_getElem?_getD, List.getElem?_eq_getElem hq, Option.getD_some, e] at this
  simpa using this
theorem inR_yes (l : List (Int × Int)) (r : Int) (q : Nat) (hq : q < l.length) (h : (l.getD q (0, 0)).1 ≤ r ∧ r ≤ (l.getD q (0, 0)).2) : C.inR l r = true := by
  unfold C.inR
  rw [List.any_eq_true]
  refine ⟨l[q], List.getElem_mem hq, ?_⟩
  rw [List.getD_eq_getElem?_getD, List.getElem?_eq_getElem hq, Option.getD_some] at h
  simpa using h
theorem rgs_len (k : Nat) : (B.rgs k).length ≤ 40 := by
  rcases Nat.lt_or_ge 16 k with h | h
  · have : B.rgs k = [] := by unfold B.rgs; split <;> first | rfl | omega
    rw [this]; exact Nat.zero_le _
  · have : ∀ k : Fin 17, (B.rgs k.1).length ≤ 40 := by decide +kernel
    exact this ⟨k, by omega⟩

set_option maxRecDepth 1000000 in
set_option maxHeartbeats 4000000 in
theorem classR_any (r : Int) (w : World) : Calls Try.prog 13 #[.int .i64 r] w fun e w' => e = .returned (.int .i64 (B.cls r : Int)) ∧ Below w.heap.size w w' := by
  have RG := Lib.hid (fun k h1 h2 w => ranges_any k h1 h2 w)
  obtain ⟨X, hX⟩ : ∃ X, B.cls r = X := ⟨_, rfl⟩
  have HX := Lib.hid (show B.clsF r 16 = X from hX)
  rw [hX]
  clear hX
  go_enter Try.func13, Try.ntmps13
  go_wp2
  go_loopw [3] (fun cv wx => ∃ k : Nat, cv = .int .i64 (k : Int) ∧ 1 ≤ k ∧ k ≤ 17 ∧ Hid (B.clsF r (17 - k) = X) ∧ Below w.heap.size w wx) (fun cv _ => 17 - (RowKit.intOf cv).toNat)
  case atStart => exact ⟨1, rfl, Nat.le_refl _, by omega, HX, Below.refl _ _⟩
  case round =>
    obtain ⟨k, rfl, hk1, hk17, hcl, hB⟩ := hrel
    by_cases hlt : k ≤ 16
    · have HRG := Lib.hid (RG.out k hk1 hlt wr)
      have hlen := rgs_len k
      have hin : ∀ q, q < (B.rgs k).length → lI (flR (B.rgs k)) (2 * q) = ((B.rgs k).getD q (0, 0)).1 ∧ lI (flR (B.rgs k)) (2 * q + 1) = ((B.rgs k).getD q (0, 0)).2 := flR_at _
      have hsu : X = if C.inR (B.rgs k) r = true then k else B.clsF r (17 - (k + 1)) := by
        rw [← hcl.out, show 17 - k = (17 - (k + 1)) + 1 by omega]
        show (if C.inR (B.rgs (16 - (17 - (k + 1)))) r then 16 - (17 - (k + 1)) else B.clsF r (17 - (k + 1))) = _
        rw [show 16 - (17 - (k + 1)) = k by omega]
      have HSU := Lib.hid hsu
      obtain ⟨R, hR⟩ : ∃ R, B.rgs k = R := ⟨_, rfl⟩
      rw [hR] at HRG hlen hin HSU
      obtain ⟨m, hm⟩ : ∃ m, R.length = m := ⟨_, rfl⟩
      rw [hm] at HRG hlen hin
      have HM := Lib.hid hm
      obtain ⟨F, hF⟩ : ∃ F, lI (flR R) = F := ⟨_, rfl⟩
      rw [hF] at HRG hin
      have HIN := Lib.hid hin
      have HB := Lib.hid hB
      clear hR hm hF hin hsu hB
      go_wp2_with (go_at_call 29; (with_reducible refine HRG.out.mono ?_); rintro e w1 ⟨v1, rfl, hb1, hr1⟩; obtain ⟨A1, c1, rfl, hc1, hA1⟩ := hr1; have HA1 := Lib.hid hA1; clear hA1)
      go_loop [5] (fun iv => ∃ q : Nat, iv = .int .i64 (2 * (q : Int)) ∧ q ≤ m ∧ ∀ p, p < q → ¬ ((R.getD p (0, 0)).1 ≤ r ∧ r ≤ (R.getD p (0, 0)).2)) (fun iv => 2 * m - (RowKit.intOf iv).toNat)
      case atStart => exact ⟨0, rfl, Nat.zero_le _, fun p h => absurd h (Nat.not_lt_zero _)⟩
      case round =>
        obtain ⟨q, rfl, hq, hno⟩ := hrel
        by_cases hlt2 : q < m
        · obtain ⟨g, o, rfl, hc⟩ := HA1.out (by omega)
          have l0 : w1.cell? ⟨g, o + 2 * q, none⟩ = some (.int .i64 (F (2 * q))) := hc (2 * q) (by omega)
          have l1 : w1.cell? ⟨g, o + (2 * q + 1), none⟩ = some (.int .i64 (F (2 * q + 1))) := hc (2 * q + 1) (by omega)
          obtain ⟨f1, f2⟩ := HIN.out q hlt2
          rw [f1] at l0
          rw [f2] at l1
          obtain ⟨lo, hlo⟩ : ∃ x, (R.getD q (0, 0)).1 = x := ⟨_, rfl⟩
          obtain ⟨hi, hhi⟩ : ∃ x, (R.getD q (0, 0)).2 = x := ⟨_, rfl⟩
          rw [hlo] at l0
          rw [hhi] at l1
          have HLH := Lib.hid (And.intro hlo hhi)
          have HNO := Lib.hid hno
          obtain ⟨j, hj⟩ : ∃ j, 2 * q = j := ⟨_, rfl⟩
          rw [hj] at l0 l1
          have ej : 2 * (q : Int) = (j : Int) := by omega
          have hjm : j < 2 * m := by omega
          have hjm2 : j + 1 < 2 * m := by omega
          rw [ej]
          have HJ := Lib.hid hj
          clear hc f1 f2 hlo hhi hno hj ej
          by_cases h1 : lo ≤ r
          · by_cases h2 : r ≤ hi
            · have hv : X = k := by rw [HSU.out, if_pos (inR_yes R r q (by rw [HM.out]; exact hlt2) (by rw [HLH.out.1, HLH.out.2]; exact ⟨h1, h2⟩))]
              have HV := Lib.hid hv
              clear hv
              go_wp2
              go_ret
              exact ⟨rC_int (by rw [HV.out]), bst HB.out hb1⟩
            · go_wp2
              go_round
              case rel =>
                refine ⟨q + 1, by first | go_num | (have := HJ.out; congr 1; omega), by omega, fun p hp => ?_⟩
                rcases Nat.lt_or_ge p q with h | h
                · exact HNO.out p h
                · obtain rfl : p = q := by omega
                  rw [HLH.out.1, HLH.out.2]; exact fun h => h2 h.2
              case measure => simp [RowKit.intOf]; omega
          · go_wp2
            go_round
            case rel =>
              refine ⟨q + 1, by first | go_num | (have := HJ.out; congr 1; omega), by omega, fun p hp => ?_⟩
              rcases Nat.lt_or_ge p q with h | h
              · exact HNO.out p h
              · obtain rfl : p = q := by omega
                rw [HLH.out.1, HLH.out.2]; exact fun h => h1 h.1
            case measure => simp [RowKit.intOf]; omega
        · have hqm : q = m := by omega
          have hv : B.clsF r (17 - (k + 1)) = X := by
            rw [HSU.out, if_neg (by rw [inR_no R r (fun p hp => hno p (by rw [HM.out] at hp; omega))]; exact Bool.false_ne_true)]
          have HV := Lib.hid hv
          obtain ⟨j, hj⟩ : ∃ j, 2 * q = j := ⟨_, rfl⟩
          have ej : 2 * (q : Int) = (j : Int) := by omega
          have hjm : ¬ j < 2 * m := by omega
          rw [ej]
          clear hv hno hj ej hqm
          go_wp2
          go_roundw
          case rel => exact ⟨k + 1, by go_num, by omega, by omega, HV, bst HB.out hb1⟩
          case measure => simp [RowKit.intOf]; omega
    · obtain rfl : k = 17 := by omega
      have HV := Lib.hid (show X = 17 by rw [← hcl.out]; rfl)
      have HB := Lib.hid hB
      clear hB hcl
      go_wp2
      go_ret
      exact ⟨rC_int (by rw [HV.out]; rfl), HB.out⟩
theorem pairs_any (w : World) : Calls Try.prog 30 #[] w fun e w' => ∃ v, e = .returned v ∧ Below w.heap.size w w' ∧ Rd w' v (lI B.prs) 46 := by
  go_enter Try.func30, Try.ntmps30
  go_wp2
  go_ret
  exact ⟨_, rfl, (Below.refl _ _).alloc (Nat.le_refl _) _, rd_new w _ _ _ rfl rfl⟩
theorem pr_lI : ∀ k : Fin 46, lI B.prs k.1 = (pr k.1 : Int) := by decide +kernel
set_option maxRecDepth 1000000 in
set_option maxHeartbeats 4000000 in
theorem mirrorR_any (r : Int) (w : World) : Calls Try.prog 15 #[.int .i64 r] w fun e w' => e = .returned (.int .i64 (B.mir r)) ∧ Below w.heap.size w w' := by
  have PA := Lib.hid (fun w => pairs_any w)
  obtain ⟨X, hX⟩ : ∃ X, B.mir r = X := ⟨_, rfl⟩
  have HX := Lib.hid hX
  rw [hX]
  clear hX
  go_enter Try.func15, Try.ntmps15
  go_wp2_with (go_at_call 30; (with_reducible refine (PA.out _).mono ?_); rintro e w1 ⟨v1, rfl, hb1, hr1⟩; obtain ⟨A1, c1, rfl, hc1, hA1⟩ := hr1; obtain ⟨g, o, rfl, hc⟩ := hA1 (by omega); have HC := Lib.hid hc; clear hc hA1)
  go_loop [4] (fun iv => ∃ k : Nat, iv = .int .i64 (k : Int) ∧ k ≤ 46 ∧ ∀ j, j < k → (pr j : Int) ≠ r) (fun iv => 46 - (RowKit.intOf iv).toNat)
  case atStart => exact ⟨0, rfl, Nat.zero_le _, fun p h => absurd h (Nat.not_lt_zero _)⟩
  case round =>
    obtain ⟨k, rfl, hk, hno⟩ := hrel
    by_cases hlt : k < 46
    · have l0 : w1.cell? ⟨g, o + k, none⟩ = some (.int .i64 (pr k : Int)) := by rw [← pr_lI ⟨k, hlt⟩]; exact HC.out k hlt
      have ma := mir_at ⟨k, hlt⟩
      rw [show (⟨k, hlt⟩ : Fin 46).1 = k from rfl] at ma
      by_cases hr : (pr k : Int) = r
      · rw [hr, HX.out] at ma
        by_cases hod : k % 2 = 1
        · rw [if_pos hod] at ma
          have l1 : w1.cell? ⟨g, o + (k - 1), none⟩ = some (.int .i64 X) := by rw [ma, ← pr_lI ⟨k - 1, by omega⟩]; exact HC.out (k - 1) (by omega)
          obtain ⟨K, rfl⟩ : ∃ K, k = K + 1 := ⟨k - 1, by omega⟩
          rw [Nat.add_sub_cancel] at l1
          have hm : (((K + 1 : Nat) : Int)) % 2 = 1 := by omega
          have e1 : (((K + 1 : Nat) : Int)) + 1 - 2 = (K : Int) := by omega
          have e2 : ((K : Int) + 1) % 2 = 1 := by omega
          have e3 : ((K : Int) + 1) + 1 - 2 = (K : Int) := by omega
          have hK : K < 46 := by omega
          rw [hr] at l0
          clear hno ma hod
          go_wp2
          go_ret
          exact ⟨rfl, hb1⟩
        · rw [if_neg hod] at ma
          have l1 : w1.cell? ⟨g, o + (k + 1), none⟩ = some (.int .i64 X) := by rw [ma, ← pr_lI ⟨k + 1, by omega⟩]; exact HC.out (k + 1) (by omega)
          have hm : ((k : Int)) % 2 = 0 := by omega
          have hk1 : k + 1 < 46 := by omega
          rw [hr] at l0
          clear hno ma hod
          go_wp2
          go_ret
          exact ⟨rfl, hb1⟩
      · have hb : ((pr k : Int) == r) = false := by simp [hr]
        have HR := Lib.hid hr
        obtain ⟨p, hp⟩ : ∃ p, pr k = p := ⟨_, rfl⟩
        rw [hp] at l0 hb
        have HP := Lib.hid hp
        have HNO := Lib.hid hno
        clear hr ma hp hno
        go_wp2
        go_round
        case rel =>
          refine ⟨k + 1, by go_num, hlt, fun j hj => ?_⟩
          rcases Nat.lt_or_ge j k with h | h
          · exact HNO.out j h
          · obtain rfl : j = k := by omega
            exact HR.out
        case measure => simp [RowKit.intOf]; omega
    · obtain rfl : k = 46 := by omega
      have HV := Lib.hid (show r = X by rw [← HX.out]; exact (mir_out r hno).symm)
      clear hno
      go_wp2
      go_ret
      exact ⟨rC_int HV.out, hb1⟩
end Go.Proofs.Ytclblidfamabdaa
