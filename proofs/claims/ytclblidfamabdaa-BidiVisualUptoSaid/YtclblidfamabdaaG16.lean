/- The document's Class and Mirror. -/
import Derived.Test.YtclblidfamabdaaG15
import Derived.Test.YtclblidfamabdaaG12
import Derived.Test.YtclblidfamabdaaCellV
import Derived.Test.YtclblidfamabdaaG9
import Derived.Test.YtclblidfamabdaaG11
import Derived.Laws.BytesArg
import Derived.Laws.IdiomStrings
import Derived.Laws.Cover4
import Derived.Test.YtclblidfamabdaaG2
set_option linter.unusedVariables false
set_option linter.unusedSimpArgs false
namespace Go.Proofs.Ytclblidfamabdaa
open Go.RowKit Go.Shelf Go.Lib Go.BigFrame
attribute [local go_sem] Oper.semAt_some

theorem flR_len (l : List (Int × Int)) : (flR l).length = 2 * l.length := by
  induction l with
  | nil => rfl
  | cons a l ih => rw [show flR (a :: l) = a.1 :: a.2 :: flR l from rfl, List.length_cons, List.length_cons, ih, List.length_cons]; omega
theorem flR_at (l : List (Int × Int)) : ∀ q, q < l.length → lI (flR l) (2 * q) = (l.getD q (0, 0)).1 ∧ lI (flR l) (2 * q + 1) = (l.getD q (0, 0)).2 := by
  induction l with
  | nil => intro q h; exact absurd h (Nat.not_lt_zero _)
  | cons a l ih =>
    intro q h
    have e : flR (a :: l) = a.1 :: a.2 :: flR l := rfl
    cases q with
    | zero => rw [e]; exact ⟨rfl, rfl⟩
    | succ q =>
      rw [e, show 2 * (q + 1) = 2 * q + 1 + 1 by omega]
      have := ih q (by simpa using h)
      exact this
theorem inR_no (l : List (Int × Int)) (r : Int) (h : ∀ q, q < l.length → ¬ ((l.getD q (0, 0)).1 ≤ r ∧ r ≤ (l.getD q (0, 0)).2)) : C.inR l r = false := by
  unfold C.inR
  rw [List.any_eq_false]
  intro p hp
  obtain ⟨q, hq, e⟩ := List.mem_iff_getElem.1 hp
  have := h q hq
  rw [List.getD_eq_getElem?_getD, List.getElem?_eq_getElem hq, Option.getD_some, e] at this
  simpa using this
theorem inR_yes (l : List (Int × Int)) (r : Int) (q : Nat) (hq : q < l.length) (h : (l.getD q (0, 0)).1 ≤ r ∧ r ≤ (l.getD q (0, 0)).2) : C.inR l r = true := by
  unfold C.inR
  rw [List.any_eq_true]
  refine ⟨l[q], List.getElem_mem hq, ?_⟩
  rw [List.getD_eq_getElem?_getD, List.getElem?_eq_getElem hq, Option.getD_some] at h
  simpa using h
theorem rgs_len (k : Nat) : (B.rgs k).length ≤ 40 := by
  rcases Nat.lt_or_ge 16 k with h | h
  · have : B.rgs k = [] := by unfold B.rgs; split <;> first | rfl | omega
    rw [this]; exact Nat.zero_le _
  · have : ∀ k : Fin 17, (B.rgs k.1).length ≤ 40 := by decide +kernel
    exact this ⟨k, by omega⟩

set_option maxRecDepth 1000000 in
set_option maxHeartbeats 4000000 in
theorem classR_any (r : Int) (w : World) : Calls Try.prog 13 #[.int .i64 r] w fun e w' => e = .returned (.int .i64 (B.cls r : Int)) ∧ Below w.heap.size w w' := by
  have RG := Lib.hid (fun k h1 h2 w => ranges_any k h1 h2 w)
  obtain ⟨X, hX⟩ : ∃ X, B.cls r = X := ⟨_, rfl⟩
  have HX := Lib.hid (show B.clsF r 16 = X from hX)
  rw [hX]
  clear hX
  go_enter Try.func13, Try.ntmps13
  go_wp2
  go_loopw [3] (fun cv wx => ∃ k : Nat, cv = .int .i64 (k : Int) ∧ 1 ≤ k ∧ k ≤ 17 ∧ Hid (B.clsF r (17 - k) = X) ∧ Below w.heap.size w wx) (fun cv _ => 17 - (RowKit.intOf cv).toNat)
  case atStart => exact ⟨1, rfl, Nat.le_refl _, by omega, HX, Below.refl _ _⟩
  case round =>
    obtain ⟨k, rfl, hk1, hk17, hcl, hB⟩ := hrel
    by_cases hlt : k ≤ 16
    · have HRG := Lib.hid (RG.out k hk1 hlt wr)
      have hlen := rgs_len k
      have hin : ∀ q, q < (B.rgs k).length → lI (flR (B.rgs k)) (2 * q) = ((B.rgs k).getD q (0, 0)).1 ∧ lI (flR (B.rgs k)) (2 * q + 1) = ((B.rgs k).getD q (0, 0)).2 := flR_at _
      have hsu : X = if C.inR (B.rgs k) r = true then k else B.clsF r (17 - (k + 1)) := by
        rw [← hcl.out, show 17 - k = (17 - (k + 1)) + 1 by omega]
        show (if C.inR (B.rgs (16 - (17 - (k + 1)))) r then 16 - (17 - (k + 1)) else B.clsF r (17 - (k + 1))) = _
        rw [show 16 - (17 - (k + 1)) = k by omega]
      have HSU := Lib.hid hsu
      obtain ⟨R, hR⟩ : ∃ R, B.rgs k = R := ⟨_, rfl⟩
      rw [hR] at HRG hlen hin HSU
      obtain ⟨m, hm⟩ : ∃ m, R.length = m := ⟨_, rfl⟩
      rw [hm] at HRG hlen hin
      have HM := Lib.hid hm
      obtain ⟨F, hF⟩ : ∃ F, lI (flR R) = F := ⟨_, rfl⟩
      rw [hF] at HRG hin
      have HIN := Lib.hid hin
      have HB := Lib.hid hB
      clear hR hm hF hin hsu hB
      go_wp2_with (go_at_call 29; (with_reducible refine HRG.out.mono ?_); rintro e w1 ⟨v1, rfl, hb1, hr1⟩; obtain ⟨A1, c1, rfl, hc1, hA1⟩ := hr1; have HA1 := Lib.hid hA1; clear hA1)
      go_loop [5] (fun iv => ∃ q : Nat, iv = .int .i64 (2 * (q : Int)) ∧ q ≤ m ∧ ∀ p, p < q → ¬ ((R.getD p (0, 0)).1 ≤ r ∧ r ≤ (R.getD p (0, 0)).2)) (fun iv => 2 * m - (RowKit.intOf iv).toNat)
      case atStart => exact ⟨0, rfl, Nat.zero_le _, fun p h => absurd h (Nat.not_lt_zero _)⟩
      case round =>
        obtain ⟨q, rfl, hq, hno⟩ := hrel
        by_cases hlt2 : q < m
        · obtain ⟨g, o, rfl, hc⟩ := HA1.out (by omega)
          have l0 : w1.cell? ⟨g, o + 2 * q, none⟩ = some (.int .i64 (F (2 * q))) := hc (2 * q) (by omega)
          have l1 : w1.cell? ⟨g, o + (2 * q + 1), none⟩ = some (.int .i64 (F (2 * q + 1))) := hc (2 * q + 1) (by omega)
          obtain ⟨f1, f2⟩ := HIN.out q hlt2
          rw [f1] at l0
          rw [f2] at l1
          obtain ⟨lo, hlo⟩ : ∃ x, (R.getD q (0, 0)).1 = x := ⟨_, rfl⟩
          obtain ⟨hi, hhi⟩ : ∃ x, (R.getD q (0, 0)).2 = x := ⟨_, rfl⟩
          rw [hlo] at l0
          rw [hhi] at l1
          have HLH := Lib.hid (And.intro hlo hhi)
          have HNO := Lib.hid hno
          obtain ⟨j, hj⟩ : ∃ j, 2 * q = j := ⟨_, rfl⟩
          rw [hj] at l0 l1
          have ej : 2 * (q : Int) = (j : Int) := by omega
          have hjm : j < 2 * m := by omega
          have hjm2 : j + 1 < 2 * m := by omega
          rw [ej]
          have HJ := Lib.hid hj
          clear hc f1 f2 hlo hhi hno hj ej
          by_cases h1 : lo ≤ r
          · by_cases h2 : r ≤ hi
            · have hv : X = k := by rw [HSU.out, if_pos (inR_yes R r q (by rw [HM.out]; exact hlt2) (by rw [HLH.out.1, HLH.out.2]; exact ⟨h1, h2⟩))]
              have HV := Lib.hid hv
              clear hv
              go_wp2
              go_ret
              exact ⟨rC_int (by rw [HV.out]), bst HB.out hb1⟩
            · go_wp2
              go_round
              case rel =>
                refine ⟨q + 1, by first | go_num | (have := HJ.out; congr 1; omega), by omega, fun p hp => ?_⟩
                rcases Nat.lt_or_ge p q with h | h
                · exact HNO.out p h
                · obtain rfl : p = q := by omega
                  rw [HLH.out.1, HLH.out.2]; exact fun h => h2 h.2
              case measure => simp [RowKit.intOf]; omega
          · go_wp2
            go_round
            case rel =>
              refine ⟨q + 1, by first | go_num | (have := HJ.out; congr 1; omega), by omega, fun p hp => ?_⟩
              rcases Nat.lt_or_ge p q with h | h
              · exact HNO.out p h
              · obtain rfl : p = q := by omega
                rw [HLH.out.1, HLH.out.2]; exact fun h => h1 h.1
            case measure => simp [RowKit.intOf]; omega
        · have hqm : q = m := by omega
          have hv : B.clsF r (17 - (k + 1)) = X := by
            rw [HSU.out, if_neg (by rw [inR_no R r (fun p hp => hno p (by rw [HM.out] at hp; omega))]; exact Bool.false_ne_true)]
          have HV := Lib.hid hv
          obtain ⟨j, hj⟩ : ∃ j, 2 * q = j := ⟨_, rfl⟩
          have ej : 2 * (q : Int) = (j : Int) := by omega
          have hjm : ¬ j < 2 * m := by omega
          rw [ej]
          clear hv hno hj ej hqm
          go_wp2
          go_roundw
          case rel => exact ⟨k + 1, by go_num, by omega, by omega, HV, bst HB.out hb1⟩
          case measure => simp [RowKit.intOf]; omega
    · obtain rfl : k = 17 := by omega
      have HV := Lib.hid (show X = 17 by rw [← hcl.out]; rfl)
      have HB := Lib.hid hB
      clear hB hcl
      go_wp2
      go_ret
      exact ⟨rC_int (by rw [HV.out]; rfl), HB.out⟩
theorem pairs_any (w : World) : Calls Try.prog 30 #[] w fun e w' => ∃ v, e = .returned v ∧ Below w.heap.size w w' ∧ Rd w' v (lI B.prs) 46 := by
  go_enter Try.func30, Try.ntmps30
  go_wp2
  go_ret
  exact ⟨_, rfl, (Below.refl _ _).alloc (Nat.le_refl _) _, rd_new w _ _ _ rfl rfl⟩
theorem pr_lI : ∀ k : Fin 46, lI B.prs k.1 = (pr k.1 : Int) := by decide +kernel
set_option maxRecDepth 1000000 in
set_option maxHeartbeats 4000000 in
theorem mirrorR_any (r : Int) (w : World) : Calls Try.prog 15 #[.int .i64 r] w fun e w' => e = .returned (.int .i64 (B.mir r)) ∧ Below w.heap.size w w' := by
  have PA := Lib.hid (fun w => pairs_any w)
  obtain ⟨X, hX⟩ : ∃ X, B.mir r = X := ⟨_, rfl⟩
  have HX := Lib.hid hX
  rw [hX]
  clear hX
  go_enter Try.func15, Try.ntmps15
  go_wp2_with (go_at_call 30; (with_reducible refine (PA.out _).mono ?_); rintro e w1 ⟨v1, rfl, hb1, hr1⟩; obtain ⟨A1, c1, rfl, hc1, hA1⟩ := hr1; obtain ⟨g, o, rfl, hc⟩ := hA1 (by omega); have HC := Lib.hid hc; clear hc hA1)
  go_loop [4] (fun iv => ∃ k : Nat, iv = .int .i64 (k : Int) ∧ k ≤ 46 ∧ ∀ j, j < k → (pr j : Int) ≠ r) (fun iv => 46 - (RowKit.intOf iv).toNat)
  case atStart => exact ⟨0, rfl, Nat.zero_le _, fun p h => absurd h (Nat.not_lt_zero _)⟩
  case round =>
    obtain ⟨k, rfl, hk, hno⟩ := hrel
    by_cases hlt : k < 46
    · have l0 : w1.cell? ⟨g, o + k, none⟩ = some (.int .i64 (pr k : Int)) := by rw [← pr_lI ⟨k, hlt⟩]; exact HC.out k hlt
      have ma := mir_at ⟨k, hlt⟩
      rw [show (⟨k, hlt⟩ : Fin 46).1 = k from rfl] at ma
      by_cases hr : (pr k : Int) = r
      · rw [hr, HX.out] at ma
        by_cases hod : k % 2 = 1
        · rw [if_pos hod] at ma
          have l1 : w1.cell? ⟨g, o + (k - 1), none⟩ = some (.int .i64 X) := by rw [ma, ← pr_lI ⟨k - 1, by omega⟩]; exact HC.out (k - 1) (by omega)
          obtain ⟨K, rfl⟩ : ∃ K, k = K + 1 := ⟨k - 1, by omega⟩
          rw [Nat.add_sub_cancel] at l1
          have hm : (((K + 1 : Nat) : Int)) % 2 = 1 := by omega
          have e1 : (((K + 1 : Nat) : Int)) + 1 - 2 = (K : Int) := by omega
          have e2 : ((K : Int) + 1) % 2 = 1 := by omega
          have e3 : ((K : Int) + 1) + 1 - 2 = (K : Int) := by omega
          have hK : K < 46 := by omega
          rw [hr] at l0
          clear hno ma hod
          go_wp2
          go_ret
          exact ⟨rfl, hb1⟩
        · rw [if_neg hod] at ma
          have l1 : w1.cell? ⟨g, o + (k + 1), none⟩ = some (.int .i64 X) := by rw [ma, ← pr_lI ⟨k + 1, by omega⟩]; exact HC.out (k + 1) (by omega)
          have hm : ((k : Int)) % 2 = 0 := by omega
          have hk1 : k + 1 < 46 := by omega
          rw [hr] at l0
          clear hno ma hod
          go_wp2
          go_ret
          exact ⟨rfl, hb1⟩
      · have hb : ((pr k : Int) == r) = false := by simp [hr]
        have HR := Lib.hid hr
        obtain ⟨p, hp⟩ : ∃ p, pr k = p := ⟨_, rfl⟩
        rw [hp] at l0 hb
        have HP := Lib.hid hp
        have HNO := Lib.hid hno
        clear hr ma hp hno
        go_wp2
        go_round
        case rel =>
          refine ⟨k + 1, by go_num, hlt, fun j hj => ?_⟩
          rcases Nat.lt_or_ge j k with h | h
          · exact HNO.out j h
          · obtain rfl : j = k := by omega
            exact HR.out
        case measure => simp [RowKit.intOf]; omega
    · obtain rfl : k = 46 := by omega
      have HV := Lib.hid (show r = X by rw [← HX.out]; exact (mir_out r hno).symm)
      clear hno
      go_wp2
      go_ret
      exact ⟨rC_int HV.out, hb1⟩
end Go.Proofs.Ytclblidfamabdaa

/- The document's Runes, Text of this seat. -/
set_option linter.unusedVariables false
set_option linter.unusedSimpArgs false
namespace Go.Proofs.Ytclblidfamabdaa
open Go.RowKit Go.Shelf Go.Lib Go.BigFrame
attribute [local go_sem] Oper.semAt_some

theorem flat4 {α : Type} (f : α → List Value) (hf : ∀ x, (f x).length = 4) (l : List α) (i k : Nat) (x : α) (hx : l[i]? = some x) (hk : k < 4) : (l.flatMap f)[i * 4 + k]? = (f x)[k]? := by
  induction l generalizing i with
  | nil => simp at hx
  | cons a l ih =>
    cases i with
    | zero =>
      simp at hx
      subst hx
      rw [List.flatMap_cons, List.getElem?_append_left (by rw [hf]; omega), Nat.zero_mul, Nat.zero_add]
    | succ i =>
      have := ih i (by simpa using hx)
      rw [List.flatMap_cons, List.getElem?_append_right (by rw [hf]; omega), hf, ← this]
      congr 1
      omega
theorem signs_len_le (s : ByteArray) : (U.signs s.data.toList).length ≤ s.size := by rw [U.size_eq]; exact U.signs_length_le _
def tk (x : U.Sg) : U.Tk := (x.rune, x.len)
theorem tk_put (a : Nat) (l : List U.Tk) : (U.put a l).map tk = l := by
  induction l generalizing a with
  | nil => rfl
  | cons t l ih => simp [U.put, tk, ih]
theorem tk_signs (l : List UInt8) : (U.signs l).map tk = U.toks l := tk_put 0 _
theorem cellR_length (x : U.Sg) : (cellR x).length = 4 := rfl
/-- The four cells of element k. -/
theorem cellsR_at {w : World} {base : Nat} {e : TypeId} {g cap k : Nat} {l : List U.Sg} {x : U.Sg} (h : w.ownsRow base e 4 (.slice (some ⟨g, 0, none⟩) l.length cap) l.length (cellsR l)) (hx : l[k]? = some x) :
    w.cell? ⟨g, k * 4, none⟩ = some (.int .i64 (x.at_ : Int)) ∧ w.cell? ⟨g, k * 4 + 1, none⟩ = some (.int .i64 (x.len : Int)) ∧ w.cell? ⟨g, k * 4 + 2, none⟩ = some (.int .i64 (x.rune : Int)) ∧ w.cell? ⟨g, k * 4 + 3, none⟩ = some (.bool x.bad) :=
  ⟨row_cell h _ _ (flat4 cellR cellR_length l k 0 x hx (by omega)), row_cell h _ _ (flat4 cellR cellR_length l k 1 x hx (by omega)), row_cell h _ _ (flat4 cellR cellR_length l k 2 x hx (by omega)), row_cell h _ _ (flat4 cellR cellR_length l k 3 x hx (by omega))⟩
def nums (l : List Int) : List Value := l.map (Value.int .i64)
theorem nums_snoc (l : List Int) (x : Int) : nums (l ++ [x]) = nums l ++ [.int .i64 x] := by simp [nums]
theorem nums_at {w : World} {base g cap k : Nat} {e : TypeId} {l : List Int} {x : Int} (h : w.ownsRow base e 1 (.slice (some ⟨g, 0, none⟩) l.length cap) l.length (nums l)) (hx : l[k]? = some x) : w.cell? ⟨g, k, none⟩ = some (.int .i64 x) :=
  row_cell h k _ (by simp [nums, hx])
set_option maxRecDepth 1000000 in
theorem runesR_any (s : ByteArray) (w : World) (hs : s.size ≤ 4194304) :
    Calls Try.prog 50 #[.string s] w fun e w' => ∃ v, e = .returned v ∧ Below w.heap.size w w' ∧ w'.ownsRow w.heap.size 3 1 v (runesL s.data.toList).length (nums (runesL s.data.toList)) := by
  obtain ⟨i0, hi, hz0, hz1, hz2⟩ := info_parts Try.infoInt
  have hll := signs_len_le s
  have SG := signsR_any s w hs
  have hrl : runesL s.data.toList = (U.signs s.data.toList).map fun x => (x.rune : Int) := by rw [runesL, ← tk_signs, List.map_map]; rfl
  rw [hrl, List.length_map]
  clear hrl
  obtain ⟨l, hl⟩ : ∃ l, U.signs s.data.toList = l := ⟨_, rfl⟩
  rw [hl] at SG hll ⊢
  clear hl
  have HSG := Lib.hid SG
  clear SG
  go_enter Try.func50, Try.ntmps50
  go_wp2_with (go_at_call 74; refine HSG.out.mono ?_; rintro e w1 ⟨v, rfl, hb1, hrow1⟩; obtain ⟨A, cp, rfl, hA⟩ := own_form hrow1)
  have hB1s := hb1.size
  go_loopw [4, 5] (fun o i wr => ∃ k : Nat, i = .int .i64 (k : Int) ∧ k ≤ l.length ∧ Below w.heap.size w wr ∧ Below w1.heap.size w1 wr ∧ wr.ownsRow w1.heap.size 3 1 o k (nums ((l.take k).map fun x => (x.rune : Int)))) (fun _ i _ => l.length - (RowKit.intOf i).toNat)
  case atStart => exact ⟨0, rfl, Nat.zero_le _, hb1, Below.refl _ _, World.ownsRow_nil _ _ _ _⟩
  case round =>
    obtain ⟨k, rfl, hk, hB, hB1, hrow⟩ := hrel
    have hBs := hB.size
    have hBs1 := hB1.size
    by_cases hlt : k < l.length
    · obtain ⟨g, rfl⟩ := hA (by omega)
      obtain ⟨x, hx⟩ : ∃ s, l[k]? = some s := ⟨_, List.getElem?_eq_getElem hlt⟩
      obtain ⟨c0, c1, c2, c3⟩ := cellsR_at (own_below hrow1 hB1) hx
      have HT := Lib.hid (show l.take (k + 1) = l.take k ++ [x] by rw [List.take_add_one, hx]; rfl)
      clear hx hA hrow1
      go_wp2_with (at_builtin; go_must (refine wpList_append_own _ rfl _ _ 29 rfl w1.heap.size 3 i0 _ 1 8 Try.underlying29 hi hz0 hz1 hz2 rfl (by decide) _ _ _ rfl (hrow.alloc _) ⟨wr.heap.size, 0, none⟩ 1 1 [.int .i64 (x.rune : Int)] rfl rfl (World.news_of_block (World.alloc_heap_new wr _)) (by simp [Value.oneCell']) (by unfold maxLen; omega) (by omega) (by simp; omega) ?_); intro v' w2 hown hg _)
      go_roundw
      case rel =>
        refine ⟨k + 1, by go_num, hlt, (hB.alloc hB.size _).grown hg (by simp; omega) (fun q e => by have := (hrow.lt q e).1; omega), (hB1.alloc hB1.size _).grown hg (by simp; omega) (fun q e => by have := (hrow.lt q e).1; omega), ?_⟩
        rw [HT.out, List.map_append, List.map_cons, List.map_nil, nums_snoc]
        exact hown
      case measure => simp [RowKit.intOf]; omega
    · obtain rfl : k = l.length := by omega
      rw [List.take_length] at hrow
      go_wp2
      go_ret
      exact ⟨_, rfl, hB, ownsRow_base hrow (by omega)⟩
end Go.Proofs.Ytclblidfamabdaa

/- The document's rows: small functions; the items of a row; the first strong one. -/
set_option linter.unusedVariables false
set_option linter.unusedSimpArgs false
namespace Go.Proofs.Ytclblidfamabdaa
open Go.RowKit Go.Shelf Go.Lib Go.BigFrame
attribute [local go_sem] Oper.semAt_some

set_option maxRecDepth 1000000 in
theorem opens_any (x : Nat) (w : World) : Calls Try.prog 62 #[.int .i64 (x : Int)] w fun e w' => e = .returned (.bool (B.isOp x)) ∧ w = w' := by
  by_cases h9 : x = 9
  · subst h9
    go_enter Try.func62, Try.ntmps62
    go_wp2
    go_ret
    exact ⟨rfl, rfl⟩
  · by_cases h10 : x = 10
    · subst h10
      go_enter Try.func62, Try.ntmps62
      go_wp2
      go_ret
      exact ⟨rfl, rfl⟩
    · have b9 : ((x : Int) == 9) = false := by simp; omega
      have b10 : ((x : Int) == 10) = false := by simp; omega
      have HB := Lib.hid (show B.isOp x = ((x : Int) == 11) by
        unfold B.isOp
        by_cases h11 : x = 11
        · subst h11; rfl
        · have : ((x : Int) == 11) = false := by simp; omega
          rw [this, Bool.and_eq_false_iff, decide_eq_false_iff_not, decide_eq_false_iff_not]; omega)
      go_enter Try.func62, Try.ntmps62
      go_wp2
      go_ret
      exact ⟨rC_bool HB.out.symm, rfl⟩
theorem neu_val (x : Nat) (h1 : x ≠ 1) (h2 : x ≠ 2) (h3 : x ≠ 3) (h4 : x ≠ 16) : B.neu x = (B.isOp x || decide (x = 12)) := by
  unfold B.neu B.isIso B.isOp
  rw [decide_eq_false h1, decide_eq_false h2, decide_eq_false h3, decide_eq_false h4, Bool.eq_iff_iff]
  simp
  omega
set_option maxRecDepth 1000000 in
theorem neutral_any2 (x : Nat) (w : World) : Calls Try.prog 86 #[.int .i64 (x : Int)] w fun e w' => e = .returned (.bool (B.neu x)) ∧ w = w' := by
  have OP := Lib.hid (opens_any x w)
  by_cases h1 : x = 1 ∨ x = 2 ∨ x = 3 ∨ x = 16
  · rcases h1 with rfl | rfl | rfl | rfl
    all_goals (
      go_enter Try.func86, Try.ntmps86
      go_wp2
      go_ret
      exact ⟨rfl, rfl⟩)
  · have b1 : ((x : Int) == 1) = false := by simp; omega
    have b2 : ((x : Int) == 2) = false := by simp; omega
    have b3 : ((x : Int) == 3) = false := by simp; omega
    have b4 : ((x : Int) == 16) = false := by simp; omega
    have HN := Lib.hid (neu_val x (by omega) (by omega) (by omega) (by omega))
    obtain ⟨y, hy⟩ : ∃ y, B.isOp x = y := ⟨_, rfl⟩
    rw [hy] at OP
    have HY := Lib.hid hy
    clear hy
    cases y
    · have HB := Lib.hid (show B.neu x = ((x : Int) == 12) by
        rw [HN.out, HY.out, Bool.false_or, Bool.eq_iff_iff]; simp; omega)
      go_enter Try.func86, Try.ntmps86
      go_wp2_with (go_at_call 62; (with_reducible refine OP.out.mono ?_); rintro e w1 ⟨rfl, rfl⟩)
      go_ret
      exact ⟨rC_bool HB.out.symm, rfl⟩
    · have HB := Lib.hid (show B.neu x = true by rw [HN.out, HY.out]; rfl)
      go_enter Try.func86, Try.ntmps86
      go_wp2_with (go_at_call 62; (with_reducible refine OP.out.mono ?_); rintro e w1 ⟨rfl, rfl⟩)
      go_ret
      exact ⟨rC_bool HB.out.symm, rfl⟩
set_option maxRecDepth 1000000 in
theorem side_any (x : Nat) (w : World) : Calls Try.prog 66 #[.int .i64 (x : Int)] w fun e w' => e = .returned (.int .i64 (B.sid x : Int)) ∧ w = w' := by
  have H0 := Lib.hid (show B.sid x = if x % 2 = 1 then 15 else 17 from rfl)
  by_cases h1 : x % 2 = 1
  · have e1 : (x : Int) % 2 = 1 := by omega
    have e2 : (x : Int).tmod 2 = 1 := by rw [Int.tmod_eq_emod_of_nonneg (by omega)]; exact e1
    have H := Lib.hid (H0.out.trans (if_pos h1))
    clear h1
    go_enter Try.func66, Try.ntmps66
    go_wp2
    go_ret
    exact ⟨rC_int (by rw [H.out]; rfl), rfl⟩
  · have e1 : (x : Int) % 2 = 0 := by omega
    have e2 : (x : Int).tmod 2 = 0 := by rw [Int.tmod_eq_emod_of_nonneg (by omega)]; exact e1
    have H := Lib.hid (H0.out.trans (if_neg h1))
    clear h1
    go_enter Try.func66, Try.ntmps66
    go_wp2
    go_ret
    exact ⟨rC_int (by rw [H.out]; rfl), rfl⟩
set_option maxRecDepth 1000000 in
theorem above_any (x : Nat) (od : Bool) (w : World) (hx : x ≤ 67108864) : Calls Try.prog 67 #[.int .i64 (x : Int), .bool od] w fun e w' => e = .returned (.int .i64 ((if (decide ((x + 1) % 2 = 1)) = od then x + 1 else x + 2 : Nat) : Int)) ∧ w = w' := by
  obtain ⟨R, hR⟩ : ∃ R, (if (decide ((x + 1) % 2 = 1)) = od then x + 1 else x + 2 : Nat) = R := ⟨_, rfl⟩
  rw [hR]
  have HR := Lib.hid hR
  clear hR
  by_cases h1 : x % 2 = 1
  · have e1 : (x : Int) % 2 = 1 := by omega
    have e2 : (x : Int).tmod 2 = 1 := by rw [Int.tmod_eq_emod_of_nonneg (by omega)]; exact e1
    have h3 : decide ((x + 1) % 2 = 1) = false := decide_eq_false (by omega)
    rw [h3] at HR
    clear h1 h3
    cases od
    · have H := Lib.hid (show x + 1 = R from HR.out)
      go_enter Try.func67, Try.ntmps67
      go_wp2
      go_ret
      exact ⟨rC_int (by rw [← H.out]; omega), rfl⟩
    · have H := Lib.hid (show x + 2 = R from HR.out)
      go_enter Try.func67, Try.ntmps67
      go_wp2
      go_ret
      exact ⟨rC_int (by rw [← H.out]; omega), rfl⟩
  · have e1 : (x : Int) % 2 = 0 := by omega
    have e2 : (x : Int).tmod 2 = 0 := by rw [Int.tmod_eq_emod_of_nonneg (by omega)]; exact e1
    have h3 : decide ((x + 1) % 2 = 1) = true := decide_eq_true (by omega)
    rw [h3] at HR
    clear h1 h3
    cases od
    · have H := Lib.hid (show x + 2 = R from HR.out)
      go_enter Try.func67, Try.ntmps67
      go_wp2
      go_ret
      exact ⟨rC_int (by rw [← H.out]; omega), rfl⟩
    · have H := Lib.hid (show x + 1 = R from HR.out)
      go_enter Try.func67, Try.ntmps67
      go_wp2
      go_ret
      exact ⟨rC_int (by rw [← H.out]; omega), rfl⟩
/-- What stands beside: its side, or the row's own. -/
def bes (side n : Nat) (l : Nat → Nat) (j : Int) : Nat := if j < 0 ∨ (n : Int) ≤ j then side else if l j.toNat = 17 then 17 else 15
set_option maxRecDepth 1000000 in
theorem beside_any (side n : Nat) (v : Value) (l : Nat → Nat) (j : Int) (w : World) (hn : n ≤ 4194304) (hv : Rd w v (fun k => (l k : Int)) n) :
    Calls Try.prog 87 #[v, .int .i64 j, .int .i64 (side : Int)] w fun e w' => e = .returned (.int .i64 (bes side n l j : Int)) ∧ w = w' := by
  obtain ⟨A, cap, rfl, hle, h1⟩ := hv
  obtain ⟨R, hR⟩ : ∃ R, bes side n l j = R := ⟨_, rfl⟩
  rw [hR]
  have HR := Lib.hid (show (if j < 0 ∨ (n : Int) ≤ j then side else if l j.toNat = 17 then 17 else 15) = R from hR)
  clear hR
  by_cases hj0 : j < 0
  · rw [if_pos (.inl hj0)] at HR
    clear h1
    go_enter Try.func87, Try.ntmps87
    go_wp2
    go_ret
    exact ⟨rC_int (by rw [HR.out]), rfl⟩
  · by_cases hjn : (n : Int) ≤ j
    · rw [if_pos (.inr hjn)] at HR
      clear h1
      go_enter Try.func87, Try.ntmps87
      go_wp2
      go_ret
      exact ⟨rC_int (by rw [HR.out]), rfl⟩
    · obtain ⟨k, rfl⟩ : ∃ k : Nat, j = (k : Int) := ⟨j.toNat, by omega⟩
      rw [if_neg (by omega), Int.toNat_natCast] at HR
      have hkn : k < n := by omega
      obtain ⟨g, o, rfl, hc⟩ := h1 (by omega)
      have c0 : w.cell? ⟨g, o + k, none⟩ = some (.int .i64 (l k : Int)) := hc k hkn
      obtain ⟨x, hx⟩ : ∃ x, l k = x := ⟨_, rfl⟩
      rw [hx] at c0 HR
      clear hc hx hj0 hjn h1
      by_cases h17 : x = 17
      · subst h17
        have H := Lib.hid (show 17 = R from HR.out)
        go_enter Try.func87, Try.ntmps87
        go_wp2
        go_ret
        exact ⟨rC_int (by rw [← H.out]; rfl), rfl⟩
      · have b0 : ((x : Int) == 17) = false := by simp; omega
        rw [if_neg h17] at HR
        have H := Lib.hid (show 15 = R from HR.out)
        go_enter Try.func87, Try.ntmps87
        go_wp2
        go_ret
        exact ⟨rC_int (by rw [← H.out]; rfl), rfl⟩

/-- A paragraph of the document: its classes, where its isolates close. -/
structure Pg (w : World) (pb N : Nat) (c cl : Nat → Nat) : Prop where
  nat : ∃ cv, w.cell? ⟨pb, 0, none⟩ = some cv ∧ Rd w cv (fun j => (c j : Int)) N
  clo : ∃ lv, w.cell? ⟨pb, 1, none⟩ = some lv ∧ Rd w lv (fun j => (cl j : Int)) N
theorem Pg.below {w w' : World} {pb N : Nat} {c cl : Nat → Nat} (h : Pg w pb N c cl) (hb : Below w.heap.size w w') : Pg w' pb N c cl := by
  obtain ⟨⟨cv, h1, h2⟩, ⟨lv, h3, h4⟩⟩ := h
  exact ⟨⟨cv, (World.cell?_of_block (hb.block _ (World.block_lt_of_cell? _ _ h1))).trans h1, h2.below hb⟩, ⟨lv, (World.cell?_of_block (hb.block _ (World.block_lt_of_cell? _ _ h3))).trans h3, h4.below hb⟩⟩

set_option maxRecDepth 1000000 in
theorem rowR_any (frm tz N pb : Nat) (c cl : Nat → Nat) (w : World) (hN : N ≤ 4194304) (hto : tz ≤ N) (hfr : frm ≤ N) (hup : B.Up cl) (hcl : ∀ x, x < N → cl x ≤ N) (hP : Pg w pb N c cl) :
    Calls Try.prog 45 #[.pointer (some ⟨pb, 0, none⟩), .int .i64 (frm : Int), .int .i64 (tz : Int)] w fun e w' => ∃ v, e = .returned v ∧ Below w.heap.size w w' ∧ w'.ownsRow w.heap.size 3 1 v (B.cnt cl frm tz) (ns (itI cl frm) (B.cnt cl frm tz)) := by
  obtain ⟨i0, hi, hz0, hz1, hz2⟩ := info_parts Try.infoIn
  have hcnt := B.cnt_le hup frm tz
  have hsp := B.cnt_spec hup frm tz
  obtain ⟨cnt, hcn⟩ : ∃ c, B.cnt cl frm tz = c := ⟨_, rfl⟩
  rw [hcn] at hcnt hsp ⊢
  have HSP := Lib.hid hsp
  have HUP := Lib.hid hup
  have HCL := Lib.hid hcl
  obtain ⟨_, ⟨lv, hlv, hc⟩⟩ := hP
  obtain ⟨CA, cc, rfl, hcl2, hc1⟩ := hc
  have HC1 := Lib.hid hc1
  have HLV := Lib.hid hlv
  have hpb : pb < w.heap.size := World.block_lt_of_cell? _ _ hlv
  clear hsp hup hcl hc1 hcn hlv
  go_enter Try.func45, Try.ntmps45
  go_wp2
  go_loopw [7, 8] (fun ov iv wr => ∃ m i : Nat, iv = .int .i64 (i : Int) ∧ i = B.itm cl frm m ∧ i ≤ N ∧ m ≤ cnt ∧ Below w.heap.size w wr ∧ wr.ownsRow w.heap.size 3 1 ov m (ns (itI cl frm) m)) (fun _ iv _ => tz - (RowKit.intOf iv).toNat)
  case atStart => exact ⟨0, frm, rfl, rfl, hfr, Nat.zero_le _, Below.refl _ _, World.ownsRow_nil _ _ _ _⟩
  case round =>
    obtain ⟨m, i, rfl, him, hiN, hm, hB, hrow⟩ := hrel
    by_cases hlt : i < tz
    · have hmc : m < cnt := (HSP.out m).2 (by rw [← him]; exact hlt)
      obtain ⟨cg, co, rfl, hcc⟩ := HC1.out (by omega)
      have hci := hcc i (by omega)
      have hcg : cg < w.heap.size := World.block_lt_of_cell? _ _ hci
      have hBs := hB.size
      have hnx : B.itm cl frm (m + 1) = B.nx cl i := by rw [him]; rfl
      have hup := B.nx_lt HUP.out i
      have hcN := HCL.out i (by omega)
      have HX := Lib.hid (And.intro him (And.intro hnx (And.intro hB hrow)))
      have hns : ns (itI cl frm) (m + 1) = ns (itI cl frm) m ++ [.int .i64 (i : Int)] := by rw [ns_succ, him]; rfl
      have HNS := Lib.hid hns
      have hlen := ns_length (itI cl frm) m
      have K : Hid (∀ w2, (wr.alloc (.cells #[.int .i64 (i : Int)] 3)).grownBy w2 u7.ownBlock → w2.cell? ⟨pb, 1, none⟩ = some (.slice (some ⟨cg, co, none⟩) N cc) ∧ w2.cell? ⟨cg, co + i, none⟩ = some (.int .i64 (cl i : Int)) ∧ Below w.heap.size w w2) := Lib.hid (fun w2 hg => by
        have hb2 : Below w.heap.size w w2 := (HX.out.2.2.1.alloc hBs _).grown hg (by simp; omega) (fun q e => (hrow.lt q e).1)
        exact ⟨(World.cell?_of_block (hb2.block _ hpb)).trans HLV.out, (World.cell?_of_block (hb2.block _ hcg)).trans hci, hb2⟩)
      clear him hnx hB hcc hns hlen hci
      by_cases hz : cl i = 0
      · have e2 : B.nx cl i = i + 1 := if_pos hz
        rw [hz] at K
        have HE := Lib.hid e2
        clear e2 hz
        go_wp2_with (at_builtin; go_must (refine wpList_append_own_at _ rfl _ _ 29 rfl w.heap.size 3 i0 _ 1 8 Try.underlying29 hi hz0 hz1 hz2 rfl (by decide) _ _ _ rfl (hrow.alloc _) ⟨wr.heap.size, 0, none⟩ 1 1 [.int .i64 (i : Int)] rfl rfl (World.news_of_block (World.alloc_heap_new wr _)) (by simp [Value.oneCell']) (by unfold maxLen; omega) (by omega) (by simp; omega) ?_); intro v' w2 hown hg _ _; obtain ⟨k0, k1, k2⟩ := K.out _ hg; have HK := Lib.hid k2; clear k2)
        go_roundw
        case rel => exact ⟨m + 1, i + 1, by go_num, by rw [HX.out.2.1, HE.out], by omega, hmc, HK.out, by rw [HNS.out]; exact hown⟩
        case measure => simp [RowKit.intOf]; omega
      · obtain ⟨q, hq⟩ : ∃ q, cl i = q := ⟨_, rfl⟩
        have e2 : B.nx cl i = q := by unfold B.nx; rw [if_neg hz, hq]
        rw [hq] at K
        rw [hq] at hcN hz
        have hiq := HUP.out i (by rw [hq]; exact hz)
        rw [hq] at hiq
        rw [e2] at hup
        have HE := Lib.hid e2
        have hq1 : 1 ≤ q := by omega
        clear e2 hq
        go_wp2_with (at_builtin; go_must (refine wpList_append_own_at _ rfl _ _ 29 rfl w.heap.size 3 i0 _ 1 8 Try.underlying29 hi hz0 hz1 hz2 rfl (by decide) _ _ _ rfl (hrow.alloc _) ⟨wr.heap.size, 0, none⟩ 1 1 [.int .i64 (i : Int)] rfl rfl (World.news_of_block (World.alloc_heap_new wr _)) (by simp [Value.oneCell']) (by unfold maxLen; omega) (by omega) (by simp; omega) ?_); intro v' w2 hown hg _ _; obtain ⟨k0, k1, k2⟩ := K.out _ hg; have HK := Lib.hid k2; clear k2)
        go_roundw
        case rel => exact ⟨m + 1, q, by go_num, by rw [HX.out.2.1, HE.out], hcN, hmc, HK.out, by rw [HNS.out]; exact hown⟩
        case measure => simp [RowKit.intOf]; omega
    · have hmc : m = cnt := by
        rcases Nat.lt_or_ge m cnt with h | h
        · have := (HSP.out m).1 h; omega
        · omega
      subst hmc
      clear him
      go_wp2
      go_ret
      exact ⟨_, rfl, hB, hrow⟩

set_option maxRecDepth 1000000 in
theorem strongR_any (rv : Value) (it c cl : Nat → Nat) (n N pb : Nat) (w : World) (hn : n ≤ 4194304) (hN : N ≤ 4194304) (hr : Rd w rv (fun j => (it j : Int)) n) (hP : Pg w pb N c cl) (hit : ∀ j, j < n → it j < N) :
    Calls Try.prog 44 #[.pointer (some ⟨pb, 0, none⟩), rv] w fun e w' => e = .returned (.int .i64 (B.stgF c it n 0 : Int)) ∧ ∃ q, w' = w.drewN q := by
  obtain ⟨RA, rc, rfl, hrl, hr1⟩ := hr
  obtain ⟨⟨cv, hcv, hc⟩, _⟩ := hP
  obtain ⟨CA, cc, rfl, hcl, hc1⟩ := hc
  have HP : Hid (∀ k, k ≤ n → (∀ j, j < k → B.S3 (c (it j)) = false) → B.stgF c it n 0 = B.stgF c it (n - k) k) := Lib.hid (fun k => by
    induction k with
    | zero => intro _ _; rfl
    | succ k ih =>
      intro hk h
      rw [ih (by omega) (fun j hj => h j (by omega))]
      obtain ⟨m, hm⟩ : ∃ m, n - k = m + 1 := ⟨n - k - 1, by omega⟩
      rw [hm, show n - (k + 1) = m by omega]
      rw [show B.stgF c it (m + 1) k = if B.S3 (c (it k)) then c (it k) else B.stgF c it m (k + 1) from rfl, h k (by omega)]
      rfl)
  obtain ⟨X, hX⟩ : ∃ X, B.stgF c it n 0 = X := ⟨_, rfl⟩
  rw [hX] at HP ⊢
  have HC := Lib.hid hc1
  have HR := Lib.hid hr1
  have HIT := Lib.hid hit
  clear hX hc1 hr1 hit
  go_enter Try.func44, Try.ntmps44
  go_wp2
  go_loopw [5, 6] (fun i _ wx => (∃ q, wx = w.drewN q) ∧ ∃ k : Nat, i = .int .i64 (k : Int) ∧ k ≤ n ∧ ∀ j, j < k → B.S3 (c (it j)) = false) (fun i _ _ => n - (RowKit.intOf i).toNat)
  case atStart => exact ⟨⟨0, rfl⟩, 0, rfl, Nat.zero_le _, fun j h => absurd h (Nat.not_lt_zero _)⟩
  case round =>
    obtain ⟨⟨nd, rfl⟩, k, rfl, hk, hno⟩ := hrel
    by_cases hlt : k < n
    · obtain ⟨rg, ro, rfl, hrc⟩ := HR.out (by omega)
      have hik := HIT.out k hlt
      obtain ⟨cg, co, rfl, hcc⟩ := HC.out (by omega)
      have r0 := hrc k hlt
      have c0 := hcc _ hik
      have HX : Hid (X = if B.S3 (c (it k)) then c (it k) else B.stgF c it (n - (k + 1)) (k + 1)) := Lib.hid (by
        rw [HP.out k hk hno]
        obtain ⟨m, hm⟩ : ∃ m, n - k = m + 1 := ⟨n - k - 1, by omega⟩
        rw [hm, show n - (k + 1) = m by omega]; rfl)
      obtain ⟨q, hq⟩ : ∃ q, it k = q := ⟨_, rfl⟩
      rw [hq] at r0 c0 hik HX
      obtain ⟨x, hx⟩ : ∃ x, c q = x := ⟨_, rfl⟩
      rw [hx] at c0 HX
      have HNO := Lib.hid hno
      have HS := Lib.hid (show c (it k) = x by rw [hq, hx])
      clear hrc hcc hno hq hx
      by_cases h17 : x = 17
      · subst h17
        go_wp2
        go_quiet (fail)
        go_wp2
        go_ret
        exact ⟨rC_int (by rw [HX.out]; rfl), by first | exact ⟨_, rfl⟩ | exact ⟨nd + nq, rfl⟩ | exact ⟨nd + nq, by simp [World.drewN]⟩⟩
      · by_cases h15 : x = 15
        · subst h15
          go_wp2
          go_quiet (fail)
          go_wp2
          go_ret
          exact ⟨rC_int (by rw [HX.out]; rfl), by first | exact ⟨_, rfl⟩ | exact ⟨nd + nq, rfl⟩ | exact ⟨nd + nq, by simp [World.drewN]⟩⟩
        · by_cases h14 : x = 14
          · subst h14
            go_wp2
            go_quiet (fail)
            go_wp2
            go_ret
            exact ⟨rC_int (by rw [HX.out]; rfl), by first | exact ⟨_, rfl⟩ | exact ⟨nd + nq, rfl⟩ | exact ⟨nd + nq, by simp [World.drewN]⟩⟩
          · have b1 : ((x : Int) == 17) = false := by simp; omega
            have b2 : ((x : Int) == 15) = false := by simp; omega
            have b3 : ((x : Int) == 14) = false := by simp; omega
            go_wp2
            go_quiet (fail)
            go_wp2
            go_roundw
            case rel =>
              refine ⟨by first | exact ⟨_, rfl⟩ | exact ⟨nd + nq, rfl⟩ | exact ⟨nd + nq, by simp [World.drewN]⟩, k + 1, by go_num, hlt, fun j hj => ?_⟩
              rcases Nat.lt_or_ge j k with h | h
              · exact HNO.out j h
              · obtain rfl : j = k := by omega
                rw [HS.out]; simp [B.S3, h17, h15, h14]
            case measure => simp [RowKit.intOf]; omega
    · obtain rfl : k = n := by omega
      have HX := Lib.hid (show X = 0 by rw [HP.out k (Nat.le_refl _) hno, Nat.sub_self]; rfl)
      clear hno
      go_wp2
      go_ret
      exact ⟨rC_int (by rw [HX.out]; rfl), by first | exact ⟨_, rfl⟩ | exact ⟨nd + nq, rfl⟩ | exact ⟨nd + nq, by simp [World.drewN]⟩⟩
end Go.Proofs.Ytclblidfamabdaa
