/- The reference's Melts; the law of the seam. -/
import Derived.Test.YtokbmihjpllgpaaSeam
import Derived.Test.YtokbmihjpllgpaaLawSigns
set_option linter.unusedVariables false
namespace Go.Proofs.Ytokbmihjpllgpaa
open Go.RowKit Go.Shelf Go.Lib Go.BigFrame
attribute [local go_sem] Oper.semAt_some

/-- Does it differ? -/
def dif (l x y : List U.Sg) : Bool := decide (l ≠ x ++ y)
theorem dif_len {l x y : List U.Sg} (h : l.length ≠ x.length + y.length) : dif l x y = true := by
  unfold dif
  refine decide_eq_true fun e => h ?_
  rw [e, List.length_append]
theorem dif_at {l x y : List U.Sg} {k : Nat} {a b : U.Sg} (ha : l[k]? = some a) (hb : (x ++ y)[k]? = some b) (h : a ≠ b) : dif l x y = true := by
  unfold dif
  refine decide_eq_true fun e => h ?_
  rw [e, hb] at ha
  exact (Option.some.inj ha).symm
theorem dif_not {l x y : List U.Sg} (hl : l.length = x.length + y.length) (h : l.take l.length = (x ++ y).take l.length) : dif l x y = false := by
  unfold dif
  refine decide_eq_false fun e => e ?_
  rw [List.take_length, List.take_of_length_le (by simp [hl])] at h
  exact h
theorem same_succ {l z : List U.Sg} {k : Nat} {a : U.Sg} (h : l.take k = z.take k) (ha : l[k]? = some a) (hb : z[k]? = some a) : l.take (k + 1) = z.take (k + 1) := by
  rw [List.take_add_one, List.take_add_one, h, ha, hb]

theorem melts_dif (a b : ByteArray) : meltsB a.data.toList b.data.toList = dif (U.signs (a ++ b).data.toList) (U.signs a.data.toList) ((U.signs b.data.toList).map (U.Sg.on a.size)) := by
  have hab : (a ++ b).data.toList = a.data.toList ++ b.data.toList := by simp
  have := U.signs_seam a.data.toList b.data.toList
  rw [hab, U.size_eq]
  unfold meltsB dif
  cases hv : (U.signs (a.data.toList ++ b.data.toList)).any (overSeam a.data.toList.length) with
  | false => rw [eq_comm, decide_eq_false_iff_not, Decidable.not_not]; exact this.1 hv
  | true =>
    rw [eq_comm, decide_eq_true_eq]
    intro e
    rw [this.2 e] at hv
    cases hv

theorem ret_dif {l x y : List U.Sg} {k : Nat} {s z : U.Sg} {B : Bool} (hs : l[k]? = some s) (hz : (x ++ y)[k]? = some z) (hB : decide (s = z) = B) (h : (!B) = true) : dif l x y = true := by
  subst hB
  exact dif_at hs hz (by simpa using h)
theorem step_dif {l x y : List U.Sg} {k : Nat} {s z : U.Sg} {B : Bool} (hs : l[k]? = some s) (hz : (x ++ y)[k]? = some z) (hB : decide (s = z) = B) (h : (!B) = false) (hk : l.take k = (x ++ y).take k) : l.take (k + 1) = (x ++ y).take (k + 1) := by
  subst hB
  have e : s = z := by simpa using h
  subst e
  exact same_succ hk hs hz

theorem eq_cells (s z : U.Sg) (w : World) : (Op.equalIn 10000 70 (.agg #[.int .i64 (s.at_ : Int), .int .i64 (s.len : Int), .int .i64 (s.rune : Int), .bool s.bad]) (.agg #[.int .i64 (z.at_ : Int), .int .i64 (z.len : Int), .int .i64 (z.rune : Int), .bool z.bad])).run Try.prog w = .ok (decide (s = z)) w := by
  have e : decide (s = z) = (((s.at_ : Int) == (z.at_ : Int)) && ((s.len : Int) == (z.len : Int)) && ((s.rune : Int) == (z.rune : Int)) && (s.bad == z.bad)) := by
    rw [Bool.eq_iff_iff]
    cases s; cases z
    simp only [U.Sg.mk.injEq, decide_eq_true_eq, Bool.and_eq_true, beq_iff_eq, Int.natCast_inj, and_assoc]
  rw [e]
  obtain ⟨a, ha⟩ : ∃ a, ((s.at_ : Int) == (z.at_ : Int)) = a := ⟨_, rfl⟩
  obtain ⟨b, hb⟩ : ∃ a, ((s.len : Int) == (z.len : Int)) = a := ⟨_, rfl⟩
  obtain ⟨c, hc⟩ : ∃ a, ((s.rune : Int) == (z.rune : Int)) = a := ⟨_, rfl⟩
  obtain ⟨d, hd⟩ : ∃ a, (s.bad == z.bad) = a := ⟨_, rfl⟩
  rw [ha, hb, hc, hd]
  rw [show (10000 : Nat) = 9999 + 1 from rfl, run_equalIn_agg w 9999 _ _ _ (by kernel_rfl) (by kernel_rfl)]
  have hu3 : Try.prog.underlying 3 = some (.int .i64) := Try.underlying3
  have hu4 : Try.prog.underlying 4 = some .bool := Try.underlying4
  cases a <;> cases b <;> cases c <;> cases d <;> simp [Op.eqFields, Program.fieldsOf, Try.underlying70, go_sem, ha, hb, hc, hd, hu3, hu4]

set_option maxRecDepth 1000000 in
set_option maxHeartbeats 1000000 in
theorem meltsR_any (a b : ByteArray) (w : World) (ha : a.size ≤ 2097152) (hb : b.size ≤ 2097152) :
    Calls Try.prog 30 #[.string a, .string b] w fun e w' => e = .returned (.bool (meltsB a.data.toList b.data.toList)) ∧ Below w.heap.size w w' := by
  rw [melts_dif]
  have hab : (a ++ b).size = a.size + b.size := by simp
  have l1 := signs_len_le a
  have l2 := signs_len_le b
  have l3 := signs_len_le (a ++ b)
  have S1 := fun w => signsR_any a w (by omega)
  have S2 := fun w => signsR_any b w (by omega)
  have S3 := fun w => signsR_any (a ++ b) w (by omega)
  have A2 := signs_at b.data.toList
  rw [← U.size_eq] at A2
  obtain ⟨x, hx⟩ : ∃ l, U.signs a.data.toList = l := ⟨_, rfl⟩
  obtain ⟨y, hy⟩ : ∃ l, U.signs b.data.toList = l := ⟨_, rfl⟩
  obtain ⟨l, hl⟩ : ∃ l, U.signs (a ++ b).data.toList = l := ⟨_, rfl⟩
  rw [hx] at l1 S1 ⊢
  rw [hy] at l2 S2 A2 ⊢
  rw [hl] at l3 S3 ⊢
  clear hx hy hl
  rw [hab] at l3
  obtain ⟨R, hR⟩ : ∃ R, dif l x (y.map (U.Sg.on a.size)) = R := ⟨_, rfl⟩
  rw [hR]
  have HR := Lib.hid hR
  have H1 := Lib.hid S1
  have H2 := Lib.hid S2
  have H3 := Lib.hid S3
  have HA := Lib.hid A2
  clear S1 S2 S3 hR A2
  go_enter Try.func30, Try.ntmps30
  go_wp2_with (go_at_call 22; first
    | ((with_reducible refine (H1.out _).mono ?_); rintro e w1 ⟨v1, rfl, hb1, hrow1⟩)
    | ((with_reducible refine (H2.out _).mono ?_); rintro e w2 ⟨v2, rfl, hb2, hrow2⟩)
    | ((with_reducible refine (H3.out _).mono ?_); rintro e w3 ⟨v3, rfl, hb3, hrow3⟩; obtain ⟨A1, c1, rfl, hA1⟩ := own_form hrow1; obtain ⟨A2, c2, rfl, hA2⟩ := own_form hrow2; obtain ⟨A3, c3, rfl, hA3⟩ := own_form hrow3))
  · have h : ((l.length : Int) != (x.length : Int) + (y.length : Int)) = true := ‹_›
    have hv := dif_len (l := l) (x := x) (y := y.map (U.Sg.on a.size)) (by simp only [bne_iff_ne] at h; rw [List.length_map]; omega)
    go_ret
    exact ⟨r_bool (by rw [← HR.out, hv]), bst (bst hb1 hb2) hb3⟩
  · have h : ((l.length : Int) != (x.length : Int) + (y.length : Int)) = false := ‹_›
    have hll : l.length = x.length + y.length := by simp only [bne_eq_false_iff_eq] at h; omega
    have HZ := Lib.hid (show l.take 0 = (x ++ y.map (U.Sg.on a.size)).take 0 from rfl)
    go_loopw [8] (fun i wr => ∃ k : Nat, i = .int .i64 (k : Int) ∧ k ≤ l.length ∧ Hid (l.take k = (x ++ y.map (U.Sg.on a.size)).take k) ∧ Below w.heap.size w wr ∧ Below w3.heap.size w3 wr) (fun i _ => l.length - (intOf i).toNat)
    case atStart => exact ⟨0, rfl, Nat.zero_le _, HZ, bst (bst hb1 hb2) hb3, Below.refl _ _⟩
    case round =>
      obtain ⟨k, rfl, hk, HK, hB, hB3⟩ := hrel
      have hB2 := bst hb3 hB3
      have hB1 := bst hb2 hB2
      by_cases hlt : k < l.length
      · obtain ⟨g3, rfl⟩ := hA3 (by omega)
        obtain ⟨s, hs⟩ : ∃ s, l[k]? = some s := ⟨_, List.getElem?_eq_getElem hlt⟩
        have Q := fun o => cellsR_at (own_below hrow3 (hB3.alloc hB3.size o)) hs
        have q0 := fun o => (Q o).1
        have q1 := fun o => (Q o).2.1
        have q2 := fun o => (Q o).2.2.1
        have q3 := fun o => (Q o).2.2.2
        by_cases hkx : k < x.length
        · obtain ⟨g1, rfl⟩ := hA1 (by omega)
          obtain ⟨z, hz⟩ : ∃ s, x[k]? = some s := ⟨_, List.getElem?_eq_getElem hkx⟩
          have P := fun o => cellsR_at (own_below hrow1 (hB1.alloc hB1.size o)) hz
          have p0 := fun o => (P o).1
          have p1 := fun o => (P o).2.1
          have p2 := fun o => (P o).2.2.1
          have p3 := fun o => (P o).2.2.2
          have he := fun w => eq_cells s z w
          obtain ⟨B, hB'⟩ : ∃ B, decide (s = z) = B := ⟨_, rfl⟩
          rw [hB'] at he
          have HB := Lib.hid hB'
          clear hB'
          have HS := Lib.hid hs
          have HZ := Lib.hid hz
          clear hs hz h hrow1 hrow2 hrow3 hA1 hA2 hA3 P Q
          go_wp2
          go_quiet (fail)
          go_wp2
          · go_ret
            exact ⟨r_bool (by rw [← HR.out]; exact (ret_dif (y := y.map (U.Sg.on a.size)) HS.out (by rw [List.getElem?_append_left hkx]; exact HZ.out) HB.out ‹_›).symm), below_dn (hB.alloc hB.size _) _⟩
          · go_roundw
            case rel => exact ⟨k + 1, by go_num, hlt, Lib.hid (step_dif HS.out (by rw [List.getElem?_append_left hkx]; exact HZ.out) HB.out ‹_› HK.out), below_dn (hB.alloc hB.size _) _, below_dn (hB3.alloc hB3.size _) _⟩
            case measure => simp [intOf]; omega
        · obtain ⟨j, rfl⟩ : ∃ j, k = x.length + j := ⟨k - x.length, by omega⟩
          obtain ⟨g2, rfl⟩ := hA2 (by omega)
          obtain ⟨z, hz⟩ : ∃ s, y[j]? = some s := ⟨_, List.getElem?_eq_getElem (show j < y.length by omega)⟩
          have P := fun o => cellsR_at (own_below hrow2 (hB2.alloc hB2.size o)) hz
          have p0 := fun o => (P o).1
          have p1 := fun o => (P o).2.1
          have p2 := fun o => (P o).2.2.1
          have p3 := fun o => (P o).2.2.2
          have he := fun w => eq_cells s (U.Sg.on a.size z) w
          obtain ⟨B, hB'⟩ : ∃ B, decide (s = U.Sg.on a.size z) = B := ⟨_, rfl⟩
          rw [hB'] at he
          rw [show (((U.Sg.on a.size z).at_ : Nat) : Int) = (z.at_ : Int) + (a.size : Int) from rfl, show (U.Sg.on a.size z).len = z.len from rfl, show (U.Sg.on a.size z).rune = z.rune from rfl, show (U.Sg.on a.size z).bad = z.bad from rfl] at he
          have hzl := HA.out z (List.mem_of_getElem? hz)
          have HB := Lib.hid hB'
          have HS := Lib.hid hs
          have HZ := Lib.hid (show (x ++ y.map (U.Sg.on a.size))[x.length + j]? = some (U.Sg.on a.size z) by rw [List.getElem?_append_right (by omega), Nat.add_sub_cancel_left, List.getElem?_map, hz]; rfl)
          clear hB' hs hz h hrow1 hrow2 hrow3 hA1 hA2 hA3 P Q
          go_wp2
          go_quiet (fail)
          go_wp2
          · go_ret
            exact ⟨r_bool (by rw [← HR.out]; exact (ret_dif (y := y.map (U.Sg.on a.size)) HS.out HZ.out HB.out ‹_›).symm), below_dn (hB.alloc hB.size _) _⟩
          · go_roundw
            case rel => exact ⟨x.length + j + 1, by go_num, hlt, Lib.hid (step_dif HS.out HZ.out HB.out ‹_› HK.out), below_dn (hB.alloc hB.size _) _, below_dn (hB3.alloc hB3.size _) _⟩
            case measure => simp [intOf]; omega
      · obtain rfl : k = l.length := by omega
        have hv := dif_not (x := x) (y := y.map (U.Sg.on a.size)) (by rw [List.length_map]; exact hll) HK.out
        have HV := Lib.hid hv
        clear hv h
        go_wp2
        go_ret
        exact ⟨r_bool (by rw [← HR.out, HV.out]), hB⟩

set_option maxRecDepth 1000000 in
theorem utfMelts_law (a b : ByteArray) (ha : a.size ≤ 1048576) (hb : b.size ≤ 1048576) (w : World) :
    Calls Try.prog 5 #[.string a, .string b] w fun e w' => e = .returned (.bool true) ∧ Below w.heap.size w w' := by
  have p1 := fun w => melts_any a b w (by omega) (by omega)
  have p2 := fun w => meltsR_any a b w (by omega) (by omega)
  obtain ⟨R, hR⟩ : ∃ R, meltsB a.data.toList b.data.toList = R := ⟨_, rfl⟩
  rw [hR] at p1 p2
  have P1 := Lib.hid p1
  have P2 := Lib.hid p2
  clear p1 p2 hR
  go_enter Try.func5, Try.ntmps5
  go_wp2_with (first
    | (go_at_call 19; refine (head_any _).mono ?_; rintro e w1 ⟨rfl, hb1⟩)
    | (go_at_call 29; refine (P1.out _).mono ?_; rintro e w2 ⟨rfl, hb2⟩)
    | (go_at_call 30; refine (P2.out _).mono ?_; rintro e w3 ⟨rfl, hb3⟩))
  go_ret
  refine ⟨rfl, ?_⟩
  repeat (first | assumption | refine bst ?_ ‹_›)
end Go.Proofs.Ytokbmihjpllgpaa
