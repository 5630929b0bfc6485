/- The reference's Melts, for the second chapter. -/
import Derived.Test.YtcngfcckajpkhaaCellX
import Derived.Test.YtcngfcckajpkhaaCellV
import Derived.Test.YtcngfcckajpkhaaKRef
set_option linter.unusedVariables false
namespace Go.Proofs.Ytcngfcckajpkhaa
def overSeam (n : Nat) (x : U.Sg) : Bool := decide (x.at_ < n) && decide (n < x.at_ + x.len)
def meltsB (a b : List UInt8) : Bool := (U.signs (a ++ b)).any (overSeam a.length)

end Go.Proofs.Ytcngfcckajpkhaa
namespace Go.Proofs.Ytcngfcckajpkhaa.U
theorem put_ge (a : Nat) (l : List Tk) : ∀ x ∈ put a l, a ≤ x.at_ := by
  induction l generalizing a with
  | nil => intro x h; cases h
  | cons t l ih =>
    intro x h
    simp only [put, List.mem_cons] at h
    rcases h with rfl | h
    · exact Nat.le_refl _
    · have := ih _ x h
      omega

def Sg.on (k : Nat) (x : Sg) : Sg := { x with at_ := x.at_ + k }
theorem put_on (p q : Nat) (l : List Tk) : put (q + p) l = (put q l).map (Sg.on p) := by
  induction l generalizing q with
  | nil => rfl
  | cons t l ih =>
    simp only [put, List.map_cons, Sg.on]
    rw [← ih, show q + p + t.2 = q + t.2 + p by omega]

end Go.Proofs.Ytcngfcckajpkhaa.U
namespace Go.Proofs.Ytcngfcckajpkhaa
open Go.RowKit Go.Shelf Go.Lib Go.BigFrame
attribute [local go_sem] Oper.semAt_some
theorem put_at (a : Nat) (l : List U.Tk) : ∀ x ∈ U.put a l, x.at_ + x.len ≤ a + U.wsum l := by
  induction l generalizing a with
  | nil => intro x h; cases h
  | cons t l ih =>
    intro x h
    simp only [U.put, List.mem_cons] at h
    simp only [U.wsum, List.map_cons, List.sum_cons]
    rcases h with rfl | h
    · simp only; omega
    · have := ih _ x h
      simp only [U.wsum] at this
      omega
theorem signs_at (l : List UInt8) : ∀ x ∈ U.signs l, x.at_ + x.len ≤ l.length := fun x hx => by
  have := put_at 0 _ x hx
  rw [U.wsum_toks] at this
  omega

open U in
theorem U.signs_seam (a b : List UInt8) : (signs (a ++ b)).any (overSeam a.length) = false ↔ signs (a ++ b) = signs a ++ (signs b).map (Sg.on a.length) := by
  have hm : (signs b).map (Sg.on a.length) = put a.length (toks b) := by rw [signs, ← put_on, Nat.zero_add]
  constructor
  · intro h
    rw [List.any_eq_false] at h
    have := toks_seam b a 0 (fun x hx => by
      have h1 := h x hx
      simp only [overSeam, Bool.and_eq_true, decide_eq_true_eq] at h1
      simpa using h1)
    rw [hm, signs, this, put_append, wsum_toks, Nat.zero_add]
    rfl
  · intro h
    rw [h, List.any_append, Bool.or_eq_false_iff]
    constructor
    · rw [List.any_eq_false]
      intro x hx
      have := signs_at a x hx
      simp [overSeam]
      omega
    · rw [hm, List.any_eq_false]
      intro x hx
      have := put_ge _ _ x hx
      simp [overSeam]
      omega
theorem flat4 {α : Type} (f : α → List Value) (hf : ∀ x, (f x).length = 4) (l : List α) (i k : Nat) (x : α) (hx : l[i]? = some x) (hk : k < 4) : (l.flatMap f)[i * 4 + k]? = (f x)[k]? := by
  induction l generalizing i with
  | nil => simp at hx
  | cons a l ih =>
    cases i with
    | zero =>
      simp at hx
      subst hx
      rw [List.flatMap_cons, List.getElem?_append_left (by rw [hf]; omega), Nat.zero_mul, Nat.zero_add]
    | succ i =>
      have := ih i (by simpa using hx)
      rw [List.flatMap_cons, List.getElem?_append_right (by rw [hf]; omega), hf, ← this]
      congr 1
      omega

theorem cellR_length (x : U.Sg) : (cellR x).length = 4 := rfl
theorem cellsR_at {w : World} {base : Nat} {e : TypeId} {g cap k : Nat} {l : List U.Sg} {x : U.Sg} (h : w.ownsRow base e 4 (.slice (some ⟨g, 0, none⟩) l.length cap) l.length (cellsR l)) (hx : l[k]? = some x) :
    w.cell? ⟨g, k * 4, none⟩ = some (.int .i64 (x.at_ : Int)) ∧ w.cell? ⟨g, k * 4 + 1, none⟩ = some (.int .i64 (x.len : Int)) ∧ w.cell? ⟨g, k * 4 + 2, none⟩ = some (.int .i64 (x.rune : Int)) ∧ w.cell? ⟨g, k * 4 + 3, none⟩ = some (.bool x.bad) :=
  ⟨row_cell h _ _ (flat4 cellR cellR_length l k 0 x hx (by omega)), row_cell h _ _ (flat4 cellR cellR_length l k 1 x hx (by omega)), row_cell h _ _ (flat4 cellR cellR_length l k 2 x hx (by omega)), row_cell h _ _ (flat4 cellR cellR_length l k 3 x hx (by omega))⟩
theorem signs_len_le (s : ByteArray) : (U.signs s.data.toList).length ≤ s.size := by rw [U.size_eq]; exact U.signs_length_le _

/-- Does it differ? -/
def dif (l x y : List U.Sg) : Bool := decide (l ≠ x ++ y)
theorem dif_len {l x y : List U.Sg} (h : l.length ≠ x.length + y.length) : dif l x y = true := by
  unfold dif
  refine decide_eq_true fun e => h ?_
  rw [e, List.length_append]
theorem dif_at {l x y : List U.Sg} {k : Nat} {a b : U.Sg} (ha : l[k]? = some a) (hb : (x ++ y)[k]? = some b) (h : a ≠ b) : dif l x y = true := by
  unfold dif
  refine decide_eq_true fun e => h ?_
  rw [e, hb] at ha
  exact (Option.some.inj ha).symm
theorem dif_not {l x y : List U.Sg} (hl : l.length = x.length + y.length) (h : l.take l.length = (x ++ y).take l.length) : dif l x y = false := by
  unfold dif
  refine decide_eq_false fun e => e ?_
  rw [List.take_length, List.take_of_length_le (by simp [hl])] at h
  exact h
theorem same_succ {l z : List U.Sg} {k : Nat} {a : U.Sg} (h : l.take k = z.take k) (ha : l[k]? = some a) (hb : z[k]? = some a) : l.take (k + 1) = z.take (k + 1) := by
  rw [List.take_add_one, List.take_add_one, h, ha, hb]

theorem melts_dif (a b : ByteArray) : meltsB a.data.toList b.data.toList = dif (U.signs (a ++ b).data.toList) (U.signs a.data.toList) ((U.signs b.data.toList).map (U.Sg.on a.size)) := by
  have hab : (a ++ b).data.toList = a.data.toList ++ b.data.toList := by simp
  have := U.signs_seam a.data.toList b.data.toList
  rw [hab, U.size_eq]
  unfold meltsB dif
  cases hv : (U.signs (a.data.toList ++ b.data.toList)).any (overSeam a.data.toList.length) with
  | false => rw [eq_comm, decide_eq_false_iff_not, Decidable.not_not]; exact this.1 hv
  | true =>
    rw [eq_comm, decide_eq_true_eq]
    intro e
    rw [this.2 e] at hv
    cases hv

theorem ret_dif {l x y : List U.Sg} {k : Nat} {s z : U.Sg} {B : Bool} (hs : l[k]? = some s) (hz : (x ++ y)[k]? = some z) (hB : decide (s = z) = B) (h : (!B) = true) : dif l x y = true := by
  subst hB
  exact dif_at hs hz (by simpa using h)
theorem step_dif {l x y : List U.Sg} {k : Nat} {s z : U.Sg} {B : Bool} (hs : l[k]? = some s) (hz : (x ++ y)[k]? = some z) (hB : decide (s = z) = B) (h : (!B) = false) (hk : l.take k = (x ++ y).take k) : l.take (k + 1) = (x ++ y).take (k + 1) := by
  subst hB
  have e : s = z := by simpa using h
  subst e
  exact same_succ hk hs hz

theorem eq_cells (s z : U.Sg) (w : World) : (Op.equalIn 10000 68 (.agg #[.int .i64 (s.at_ : Int), .int .i64 (s.len : Int), .int .i64 (s.rune : Int), .bool s.bad]) (.agg #[.int .i64 (z.at_ : Int), .int .i64 (z.len : Int), .int .i64 (z.rune : Int), .bool z.bad])).run Try.prog w = .ok (decide (s = z)) w := by
  have e : decide (s = z) = (((s.at_ : Int) == (z.at_ : Int)) && ((s.len : Int) == (z.len : Int)) && ((s.rune : Int) == (z.rune : Int)) && (s.bad == z.bad)) := by
    rw [Bool.eq_iff_iff]
    cases s; cases z
    simp only [U.Sg.mk.injEq, decide_eq_true_eq, Bool.and_eq_true, beq_iff_eq, Int.natCast_inj, and_assoc]
  rw [e]
  obtain ⟨a, ha⟩ : ∃ a, ((s.at_ : Int) == (z.at_ : Int)) = a := ⟨_, rfl⟩
  obtain ⟨b, hb⟩ : ∃ a, ((s.len : Int) == (z.len : Int)) = a := ⟨_, rfl⟩
  obtain ⟨c, hc⟩ : ∃ a, ((s.rune : Int) == (z.rune : Int)) = a := ⟨_, rfl⟩
  obtain ⟨d, hd⟩ : ∃ a, (s.bad == z.bad) = a := ⟨_, rfl⟩
  rw [ha, hb, hc, hd]
  rw [show (10000 : Nat) = 9999 + 1 from rfl, run_equalIn_agg w 9999 _ _ _ (by kernel_rfl) (by kernel_rfl)]
  have hu3 : Try.prog.underlying 3 = some (.int .i64) := Try.underlying3
  have hu4 : Try.prog.underlying 4 = some .bool := Try.underlying4
  cases a <;> cases b <;> cases c <;> cases d <;> simp [Op.eqFields, Program.fieldsOf, Try.underlying68, go_sem, ha, hb, hc, hd, hu3, hu4]

set_option maxRecDepth 1000000 in
set_option maxHeartbeats 1000000 in
theorem meltsR_any (a b : ByteArray) (w : World) (ha : a.size ≤ 2097152) (hb : b.size ≤ 2097152) :
    Calls Try.prog 29 #[.string a, .string b] w fun e w' => e = .returned (.bool (meltsB a.data.toList b.data.toList)) ∧ Below w.heap.size w w' := by
  rw [melts_dif]
  have hab : (a ++ b).size = a.size + b.size := by simp
  have l1 := signs_len_le a
  have l2 := signs_len_le b
  have l3 := signs_len_le (a ++ b)
  have S1 := fun w => signsR_any a w (by omega)
  have S2 := fun w => signsR_any b w (by omega)
  have S3 := fun w => signsR_any (a ++ b) w (by omega)
  have A2 := signs_at b.data.toList
  rw [← U.size_eq] at A2
  obtain ⟨x, hx⟩ : ∃ l, U.signs a.data.toList = l := ⟨_, rfl⟩
  obtain ⟨y, hy⟩ : ∃ l, U.signs b.data.toList = l := ⟨_, rfl⟩
  obtain ⟨l, hl⟩ : ∃ l, U.signs (a ++ b).data.toList = l := ⟨_, rfl⟩
  rw [hx] at l1 S1 ⊢
  rw [hy] at l2 S2 A2 ⊢
  rw [hl] at l3 S3 ⊢
  clear hx hy hl
  rw [hab] at l3
  obtain ⟨R, hR⟩ : ∃ R, dif l x (y.map (U.Sg.on a.size)) = R := ⟨_, rfl⟩
  rw [hR]
  have HR := Lib.hid hR
  have H1 := Lib.hid S1
  have H2 := Lib.hid S2
  have H3 := Lib.hid S3
  have HA := Lib.hid A2
  clear S1 S2 S3 hR A2
  go_enter Try.func29, Try.ntmps29
  go_wp2_with (go_at_call 47; first
    | ((with_reducible refine (H1.out _).mono ?_); rintro e w1 ⟨v1, rfl, hb1, hrow1⟩)
    | ((with_reducible refine (H2.out _).mono ?_); rintro e w2 ⟨v2, rfl, hb2, hrow2⟩)
    | ((with_reducible refine (H3.out _).mono ?_); rintro e w3 ⟨v3, rfl, hb3, hrow3⟩; obtain ⟨A1, c1, rfl, hA1⟩ := own_form hrow1; obtain ⟨A2, c2, rfl, hA2⟩ := own_form hrow2; obtain ⟨A3, c3, rfl, hA3⟩ := own_form hrow3))
  · have h : ((l.length : Int) != (x.length : Int) + (y.length : Int)) = true := ‹_›
    have hv := dif_len (l := l) (x := x) (y := y.map (U.Sg.on a.size)) (by simp only [bne_iff_ne] at h; rw [List.length_map]; omega)
    go_ret
    exact ⟨r_bool (by rw [← HR.out, hv]), bst (bst hb1 hb2) hb3⟩
  · have h : ((l.length : Int) != (x.length : Int) + (y.length : Int)) = false := ‹_›
    have hll : l.length = x.length + y.length := by simp only [bne_eq_false_iff_eq] at h; omega
    have HZ := Lib.hid (show l.take 0 = (x ++ y.map (U.Sg.on a.size)).take 0 from rfl)
    go_loopw [8] (fun i wr => ∃ k : Nat, i = .int .i64 (k : Int) ∧ k ≤ l.length ∧ Hid (l.take k = (x ++ y.map (U.Sg.on a.size)).take k) ∧ Below w.heap.size w wr ∧ Below w3.heap.size w3 wr) (fun i _ => l.length - (intOf i).toNat)
    case atStart => exact ⟨0, rfl, Nat.zero_le _, HZ, bst (bst hb1 hb2) hb3, Below.refl _ _⟩
    case round =>
      obtain ⟨k, rfl, hk, HK, hB, hB3⟩ := hrel
      have hB2 := bst hb3 hB3
      have hB1 := bst hb2 hB2
      by_cases hlt : k < l.length
      · obtain ⟨g3, rfl⟩ := hA3 (by omega)
        obtain ⟨s, hs⟩ : ∃ s, l[k]? = some s := ⟨_, List.getElem?_eq_getElem hlt⟩
        have Q := fun o => cellsR_at (own_below hrow3 (hB3.alloc hB3.size o)) hs
        have q0 := fun o => (Q o).1
        have q1 := fun o => (Q o).2.1
        have q2 := fun o => (Q o).2.2.1
        have q3 := fun o => (Q o).2.2.2
        by_cases hkx : k < x.length
        · obtain ⟨g1, rfl⟩ := hA1 (by omega)
          obtain ⟨z, hz⟩ : ∃ s, x[k]? = some s := ⟨_, List.getElem?_eq_getElem hkx⟩
          have P := fun o => cellsR_at (own_below hrow1 (hB1.alloc hB1.size o)) hz
          have p0 := fun o => (P o).1
          have p1 := fun o => (P o).2.1
          have p2 := fun o => (P o).2.2.1
          have p3 := fun o => (P o).2.2.2
          have he := fun w => eq_cells s z w
          obtain ⟨B, hB'⟩ : ∃ B, decide (s = z) = B := ⟨_, rfl⟩
          rw [hB'] at he
          have HB := Lib.hid hB'
          clear hB'
          have HS := Lib.hid hs
          have HZ := Lib.hid hz
          clear hs hz h hrow1 hrow2 hrow3 hA1 hA2 hA3 P Q
          go_wp2
          go_quiet (fail)
          go_wp2
          · go_ret
            exact ⟨r_bool (by rw [← HR.out]; exact (ret_dif (y := y.map (U.Sg.on a.size)) HS.out (by rw [List.getElem?_append_left hkx]; exact HZ.out) HB.out ‹_›).symm), below_dn (hB.alloc hB.size _) _⟩
          · go_roundw
            case rel => exact ⟨k + 1, by go_num, hlt, Lib.hid (step_dif HS.out (by rw [List.getElem?_append_left hkx]; exact HZ.out) HB.out ‹_› HK.out), below_dn (hB.alloc hB.size _) _, below_dn (hB3.alloc hB3.size _) _⟩
            case measure => simp [intOf]; omega
        · obtain ⟨j, rfl⟩ : ∃ j, k = x.length + j := ⟨k - x.length, by omega⟩
          obtain ⟨g2, rfl⟩ := hA2 (by omega)
          obtain ⟨z, hz⟩ : ∃ s, y[j]? = some s := ⟨_, List.getElem?_eq_getElem (show j < y.length by omega)⟩
          have P := fun o => cellsR_at (own_below hrow2 (hB2.alloc hB2.size o)) hz
          have p0 := fun o => (P o).1
          have p1 := fun o => (P o).2.1
          have p2 := fun o => (P o).2.2.1
          have p3 := fun o => (P o).2.2.2
          have he := fun w => eq_cells s (U.Sg.on a.size z) w
          obtain ⟨B, hB'⟩ : ∃ B, decide (s = U.Sg.on a.size z) = B := ⟨_, rfl⟩
          rw [hB'] at he
          rw [show (((U.Sg.on a.size z).at_ : Nat) : Int) = (z.at_ : Int) + (a.size : Int) from rfl, show (U.Sg.on a.size z).len = z.len from rfl, show (U.Sg.on a.size z).rune = z.rune from rfl, show (U.Sg.on a.size z).bad = z.bad from rfl] at he
          have hzl := HA.out z (List.mem_of_getElem? hz)
          have HB := Lib.hid hB'
          have HS := Lib.hid hs
          have HZ := Lib.hid (show (x ++ y.map (U.Sg.on a.size))[x.length + j]? = some (U.Sg.on a.size z) by rw [List.getElem?_append_right (by omega), Nat.add_sub_cancel_left, List.getElem?_map, hz]; rfl)
          clear hB' hs hz h hrow1 hrow2 hrow3 hA1 hA2 hA3 P Q
          go_wp2
          go_quiet (fail)
          go_wp2
          · go_ret
            exact ⟨r_bool (by rw [← HR.out]; exact (ret_dif (y := y.map (U.Sg.on a.size)) HS.out HZ.out HB.out ‹_›).symm), below_dn (hB.alloc hB.size _) _⟩
          · go_roundw
            case rel => exact ⟨x.length + j + 1, by go_num, hlt, Lib.hid (step_dif HS.out HZ.out HB.out ‹_› HK.out), below_dn (hB.alloc hB.size _) _, below_dn (hB3.alloc hB3.size _) _⟩
            case measure => simp [intOf]; omega
      · obtain rfl : k = l.length := by omega
        have hv := dif_not (x := x) (y := y.map (U.Sg.on a.size)) (by rw [List.length_map]; exact hll) HK.out
        have HV := Lib.hid hv
        clear hv h
        go_wp2
        go_ret
        exact ⟨r_bool (by rw [← HR.out, HV.out]), hB⟩

end Go.Proofs.Ytcngfcckajpkhaa
