/- The law of the clusters. -/
import Derived.Test.YtcngfcckajpkhaaCellV
set_option linter.unusedVariables false
set_option linter.unusedSimpArgs false
namespace Go.Proofs.Ytcngfcckajpkhaa
open Go.RowKit Go.Shelf Go.Lib Go.BigFrame
attribute [local go_sem] Oper.semAt_some

set_option maxRecDepth 1000000 in
theorem as_any (c : C.Cl) (w : World) : Calls Try.prog 24 #[encC c] w fun e w' => e = .returned (encC c) ∧ Below w.heap.size w w' := by
  unfold encC
  go_enter Try.func24, Try.ntmps24
  go_wp2
  refine bodyPost_ret (v := .agg #[.int .i64 (c.at_ : Int), .int .i64 (c.len : Int), .int .i64 (c.frm : Int), .int .i64 (c.to_ : Int), .int .i64 (c.cells : Int)]) ?_ rfl ⟨rfl, ((Below.refl _ _).alloc (Nat.le_refl _) _).alloc (by simp) _⟩
  simp [results, Try.results24, go_sem]

set_option maxRecDepth 1000000 in
set_option maxHeartbeats 4000000 in
theorem ofR_any (s : ByteArray) (w : World) (hs : s.size ≤ 4194304) :
    Calls Try.prog 26 #[.string s] w fun e w' => e = .returned (.int .i64 (C.cells (C.clus (U.toks s.data.toList)) : Int)) ∧ Below w.heap.size w w' := by
  have hll := toks_len (s := s)
  have hcl := C.clus_length_le (U.toks s.data.toList)
  have hc2 := C.clus_cells_le (U.toks s.data.toList)
  have CV := fun w => clustersR_any s w hs
  obtain ⟨l, hl⟩ : ∃ l, C.clus (U.toks s.data.toList) = l := ⟨_, rfl⟩
  rw [hl] at hcl hc2 CV ⊢
  have CV := Lib.hid CV
  clear hl
  go_enter Try.func26, Try.ntmps26
  go_wp2_with (go_at_call 22; ((with_reducible refine (CV.out _).mono ?_); rintro e w1 ⟨v1, rfl, hb1, hr1⟩; obtain ⟨A1, cp1, rfl, hA1⟩ := own_form hr1))
  go_loopw [3, 5] (fun n i wr => ∃ k : Nat, wr = w1 ∧ i = .int .i64 (k : Int) ∧ n = .int .i64 (C.cells (l.take k) : Int) ∧ k ≤ l.length) (fun _ i _ => l.length - (intOf i).toNat)
  case atStart => exact ⟨0, rfl, rfl, rfl, Nat.zero_le _⟩
  case round =>
    obtain ⟨k, rfl, rfl, rfl, hk⟩ := hrel
    by_cases hlt : k < l.length
    · obtain ⟨g, rfl⟩ := hA1 (by omega)
      obtain ⟨x, hx⟩ : ∃ s, l[k]? = some s := ⟨_, List.getElem?_eq_getElem hlt⟩
      have c4 := (cellsC_at hr1 hx).2.2.2.2
      have hx2 := hc2 x (List.mem_of_getElem? hx)
      have hcs : C.cells (l.take k) ≤ 2 * (l.take k).length := C.cells_le2 _ (fun c hc => hc2 c (List.mem_of_mem_take hc))
      rw [List.length_take] at hcs
      have HT := Lib.hid (show C.cells (l.take (k + 1)) = C.cells (l.take k) + x.cells by rw [List.take_add_one, hx]; exact C.cells_snoc _ _)
      clear hx hr1 hA1
      go_wp2
      go_roundw
      case rel => exact ⟨k + 1, by trivial, by go_num, by rw [HT.out]; go_num, hlt⟩
      case measure => simp [intOf]; omega
    · obtain rfl : k = l.length := by omega
      rw [List.take_length]
      go_wp2
      go_ret
      exact ⟨rfl, hb1⟩

set_option maxRecDepth 1000000 in
set_option maxHeartbeats 4000000 in
theorem cellClusters_law (s : ByteArray) (hs : s.size ≤ 1048576) (w : World) : Calls Try.prog 5 #[.string s] w fun e w' => e = .returned (.bool true) ∧ Below w.heap.size w w' := by
  have hll := toks_len (s := s)
  have hcl := C.clus_length_le (U.toks s.data.toList)
  have CV := fun w => clustersR_any s w (by omega)
  have AL := fun w => all_any s (C.clus (U.toks s.data.toList)).length w (by omega) (Nat.le_refl _) (by omega)
  have OF := fun w => of_any s w (by omega)
  have OR := fun w => ofR_any s w (by omega)
  obtain ⟨l, hl⟩ : ∃ l, C.clus (U.toks s.data.toList) = l := ⟨_, rfl⟩
  rw [hl] at hcl CV AL OF OR
  have CV := Lib.hid CV
  have AL := Lib.hid AL
  have OF := Lib.hid OF
  have OR := Lib.hid OR
  clear hl
  go_enter Try.func5, Try.ntmps5
  go_wp2_with (first
    | (go_at_call 19; refine (known_any _).mono ?_; rintro e w1 ⟨rfl, hb1⟩)
    | (go_at_call 22; ((with_reducible refine (CV.out _).mono ?_); rintro e w2 ⟨v2, rfl, hb2, hr2⟩; obtain ⟨A2, cp2, rfl, hA2⟩ := own_form hr2))
    | (go_at_call 23; ((with_reducible refine (AL.out _).mono ?_); rintro e w3 ⟨v3, rfl, hb3, hr3⟩; obtain ⟨A3, cp3, rfl, hA3⟩ := own_form hr3)))
  have hr2' := own_below hr2 hb3
  have hB3 : Below w.heap.size w w3 := bst (bst hb1 hb2) hb3
  go_loopw [6] (fun i wr => ∃ k : Nat, i = .int .i64 (k : Int) ∧ k ≤ l.length ∧ Below w.heap.size w wr ∧ Below w3.heap.size w3 wr) (fun i _ => l.length - (intOf i).toNat)
  case atStart => exact ⟨0, rfl, Nat.zero_le _, hB3, Below.refl _ _⟩
  case round =>
    obtain ⟨k, rfl, hk, hB, hB'⟩ := hrel
    by_cases hlt : k < l.length
    · obtain ⟨g2, rfl⟩ := hA2 (by omega)
      obtain ⟨g3, rfl⟩ := hA3 (by omega)
      obtain ⟨x, hx⟩ : ∃ s, l[k]? = some s := ⟨_, List.getElem?_eq_getElem hlt⟩
      obtain ⟨a0, a1, a2, a3, a4⟩ := cellsC_at (own_below hr3 hB') hx
      obtain ⟨b0, b1, b2, b3, b4⟩ := cellsC_at (own_below hr2' hB') hx
      have AS := Lib.hid (as_any x wr.drew)
      have he := fun w => eq_cellsC x x w
      rw [decide_eq_true rfl] at he
      unfold encC at he AS
      have i1 : (0 : Int) ≤ (k : Int) := by omega
      have i2 : (k : Int) < (l.length : Int) := by omega
      have Q : ∀ w', Below wr.drew.heap.size wr.drew w' → ∀ a v, wr.cell? a = some v → w'.cell? a = some v := fun w' hb a v hc => (World.cell?_of_block (hb.block _ (World.block_lt_of_cell? wr _ hc))).trans hc
      clear hx hr2 hr3 hr2' hA2 hA3
      go_wp2
      go_region_held3 (fun w' => w'.cell? ⟨g3, k * 5, none⟩ = some (.int .i64 (x.at_ : Int)) ∧ w'.cell? ⟨g3, k * 5 + 1, none⟩ = some (.int .i64 (x.len : Int)) ∧ w'.cell? ⟨g3, k * 5 + 2, none⟩ = some (.int .i64 (x.frm : Int)) ∧ w'.cell? ⟨g3, k * 5 + 3, none⟩ = some (.int .i64 (x.to_ : Int)) ∧ w'.cell? ⟨g3, k * 5 + 4, none⟩ = some (.int .i64 (x.cells : Int)) ∧
          w'.cell? ⟨g2, k * 5, none⟩ = some (.int .i64 (x.at_ : Int)) ∧ w'.cell? ⟨g2, k * 5 + 1, none⟩ = some (.int .i64 (x.len : Int)) ∧ w'.cell? ⟨g2, k * 5 + 2, none⟩ = some (.int .i64 (x.frm : Int)) ∧ w'.cell? ⟨g2, k * 5 + 3, none⟩ = some (.int .i64 (x.to_ : Int)) ∧ w'.cell? ⟨g2, k * 5 + 4, none⟩ = some (.int .i64 (x.cells : Int)))
        (first | exact ⟨a0, a1, a2, a3, a4, b0, b1, b2, b3, b4⟩ | exact ⟨Q _ hb5 _ _ a0, Q _ hb5 _ _ a1, Q _ hb5 _ _ a2, Q _ hb5 _ _ a3, Q _ hb5 _ _ a4, Q _ hb5 _ _ b0, Q _ hb5 _ _ b1, Q _ hb5 _ _ b2, Q _ hb5 _ _ b3, Q _ hb5 _ _ b4⟩)
        (first | (go_at_call 24; refine AS.out.mono ?_; rintro e w5 ⟨rfl, hb5⟩))
      go_wp2
      go_roundw
      case rel => exact ⟨k + 1, by go_num, hlt, bst hB.drew hb5, bst hB'.drew hb5⟩
      case measure => simp [intOf]; omega
    · obtain rfl : k = l.length := by omega
      go_wp2_with (first
        | (go_at_call 25; ((with_reducible refine (OF.out _).mono ?_); rintro e w6 ⟨rfl, hb6⟩))
        | (go_at_call 26; ((with_reducible refine (OR.out _).mono ?_); rintro e w7 ⟨rfl, hb7⟩)))
      go_ret
      exact ⟨ret_bool (by simp), bst (bst hB hb6) hb7⟩
end Go.Proofs.Ytcngfcckajpkhaa
