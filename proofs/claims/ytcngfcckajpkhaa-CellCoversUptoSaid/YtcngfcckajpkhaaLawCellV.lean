/- The law of the covers: clusters lie one behind the other over all bytes and signs. -/
import Derived.Test.YtcngfcckajpkhaaLawCellC
import Derived.Test.YtcngfcckajpkhaaCellZ
set_option linter.unusedVariables false
set_option linter.unusedSimpArgs false
namespace Go.Proofs.Ytcngfcckajpkhaa
open Go.RowKit Go.Shelf Go.Lib Go.BigFrame
attribute [local go_sem] Oper.semAt_some

set_option maxRecDepth 1000000 in
set_option maxHeartbeats 4000000 in
theorem cellCovers_law (s : ByteArray) (hs : s.size ≤ 1048576) (w : World) : Calls Try.prog 7 #[.string s] w fun e w' => e = .returned (.bool true) ∧ Below w.heap.size w w' := by
  have hll := toks_len (s := s)
  have hlw := U.wsum_toks s.data.toList
  rw [← U.size_eq] at hlw
  have hcl := C.clus_length_le (U.toks s.data.toList)
  have hc2 := C.clus_cells_le (U.toks s.data.toList)
  have AL := fun w => all_any s s.size w (by omega) (by omega) (by omega)
  have OF := fun w => of_any s w (by omega)
  have ST := C.clus_steps (U.toks s.data.toList) (C.toks_14 _)
  have hsz := C.sgF_zero (U.toks s.data.toList)
  have haz := C.atF_zero (U.toks s.data.toList)
  have hse := C.sgF_end (U.toks s.data.toList)
  have hae := C.atF_end (U.toks s.data.toList)
  rw [hlw] at ST hae
  obtain ⟨tl, htl⟩ : ∃ tl, (U.toks s.data.toList).length = tl := ⟨_, rfl⟩
  rw [htl] at hll hcl ST hse
  obtain ⟨sg, hsg⟩ : ∃ sg, C.sgF (U.toks s.data.toList) = sg := ⟨_, rfl⟩
  obtain ⟨at_, hat⟩ : ∃ sg, C.atF (U.toks s.data.toList) = sg := ⟨_, rfl⟩
  rw [hsg] at ST hsz hse
  rw [hat] at ST haz hae
  obtain ⟨l, hl⟩ : ∃ l, C.clus (U.toks s.data.toList) = l := ⟨_, rfl⟩
  rw [hl] at hcl AL OF ST hc2 hse hae
  have AL := Lib.hid AL
  have OF := Lib.hid OF
  have ST := Lib.hid ST
  have HC2 := Lib.hid hc2
  have HTL := Lib.hid htl
  have HE := Lib.hid (And.intro hse hae)
  have HZ := Lib.hid (And.intro hsz haz)
  have hcs : C.cells l ≤ 2 * l.length := C.cells_le2 l hc2
  clear hl hat hsg htl hc2 hse hae hsz haz hlw
  have hno : decide (s.size < l.length) = false := decide_eq_false (by omega)
  go_enter Try.func7, Try.ntmps7
  go_wp2_with (first
    | (go_at_call 19; refine (known_any _).mono ?_; rintro e w1 ⟨rfl, hb1⟩)
    | (go_at_call 23; ((with_reducible refine (AL.out _).mono ?_); rintro e w3 ⟨v3, rfl, hb3, hr3⟩; obtain ⟨A3, cp3, rfl, hA3⟩ := own_form hr3)))
  have hB3 : Below w.heap.size w w3 := bst hb1 hb3
  go_loopw [5, 6, 7, 8] (fun a b c i wr => ∃ k : Nat, i = .int .i64 (k : Int) ∧ a = .int .i64 (at_ k : Int) ∧ b = .int .i64 (sg k : Int) ∧ c = .int .i64 (C.cells (l.take k) : Int) ∧ k ≤ l.length ∧ Below w.heap.size w wr ∧ Below w3.heap.size w3 wr) (fun _ _ _ i _ => l.length - (intOf i).toNat)
  case atStart => exact ⟨0, rfl, by rw [HZ.out.2]; rfl, by rw [HZ.out.1]; rfl, rfl, Nat.zero_le _, hB3, Below.refl _ _⟩
  case round =>
    obtain ⟨k, rfl, rfl, rfl, rfl, hk, hB, hB'⟩ := hrel
    by_cases hlt : k < l.length
    · obtain ⟨g3, rfl⟩ := hA3 (by omega)
      obtain ⟨x, hx⟩ : ∃ s, l[k]? = some s := ⟨_, List.getElem?_eq_getElem hlt⟩
      obtain ⟨a0, a1, a2, a3, a4⟩ := cellsC_at (own_below hr3 hB') hx
      obtain ⟨e1, e2, e3, e4, e5, e6, e7, e8, e9, e10⟩ := ST.out k x hx
      rw [e1] at a0
      rw [e2] at a2
      rw [e3] at a3
      have HT := Lib.hid (show C.cells (l.take (k + 1)) = C.cells (l.take k) + x.cells by rw [List.take_add_one, hx]; exact C.cells_snoc _ _)
      have hcs2 : C.cells (l.take k) ≤ 2 * (l.take k).length := C.cells_le2 _ (fun c hc => HC2.out c (List.mem_of_mem_take hc))
      rw [List.length_take] at hcs2
      obtain ⟨p, hp⟩ : ∃ p, at_ k = p := ⟨_, rfl⟩
      obtain ⟨q, hq⟩ : ∃ p, sg k = p := ⟨_, rfl⟩
      obtain ⟨q', hq'⟩ : ∃ p, sg (k + 1) = p := ⟨_, rfl⟩
      obtain ⟨p', hp'⟩ : ∃ p, at_ (k + 1) = p := ⟨_, rfl⟩
      obtain ⟨cs, hcs'⟩ : ∃ p, C.cells (l.take k) = p := ⟨_, rfl⟩
      rw [hp] at a0 e4 ⊢
      rw [hq] at a2 e5 e8 e9 ⊢
      rw [hq'] at a3 e5 e6 e8 e9
      rw [hp'] at e4 e10
      rw [hcs'] at HT hcs2 ⊢
      have HN := Lib.hid (And.intro hq' (And.intro hp' e4))
      have e11 : p + x.len ≤ s.size := by omega
      clear hx hr3 hA3 e1 e2 e3 hp hq hq' hp' hcs' e4
      go_wp2
      go_roundw
      case rel =>
        obtain ⟨n1, n2, n3⟩ := HN.out
        exact ⟨k + 1, by go_num, by rw [n2, ← n3]; go_num, by rw [n1], by rw [HT.out]; go_num, hlt, hB.alloc hB.size _, hB'.alloc hB'.size _⟩
      case measure => simp [intOf]; omega
    · obtain rfl : k = l.length := by omega
      rw [List.take_length, HE.out.1, HE.out.2]
      have hBs := hB.size
      go_wp2
      go_loopw [10] (fun n w' => ∃ (pos k : Nat), w' = wr.iter s pos ∧ n = .int .i64 (k : Int) ∧ Hid (k + (U.toks (s.data.toList.drop pos)).length = tl) ∧ k ≤ pos ∧ pos ≤ s.size) (fun _ w' => s.size - w'.iterPos wr.heap.size)
      case atStart => exact ⟨0, 0, rfl, rfl, Lib.hid (by simpa using HTL.out), Nat.le_refl _, Nat.zero_le _⟩
      case round =>
        obtain ⟨pos, k, rfl, rfl, hc, hkp, hps⟩ := hrel
        by_cases hp : pos < s.size
        · have hnx : ∀ ty, (Instr.next (.pointer (some ⟨wr.heap.size, 0, none⟩)) true ty).run Try.prog (wr.iter s pos) = _ := fun ty => run_next_any wr s pos ty hp
          have hd := decode_facts hp
          have hc2 := hc.out
          rw [toks_at hp, List.length_cons] at hc2
          have H := Lib.hid hc2
          have H2 := Lib.hid hd
          clear hc hc2 hd
          go_wp2
          go_roundw
          case rel =>
            have hd := H2.out
            exact ⟨pos + (Utf8.decode s pos).2, k + 1, rfl, by go_num, Lib.hid (by rw [← H.out]; omega), by omega, by omega⟩
          case measure =>
            have hd := H2.out
            simp
            omega
        · have hnx : ∀ ty, (Instr.next (.pointer (some ⟨wr.heap.size, 0, none⟩)) true ty).run Try.prog (wr.iter s pos) = _ := fun ty => run_next_end wr s pos ty hp
          have hc2 := hc.out
          rw [toks_end hp] at hc2
          obtain rfl : k = tl := by simpa using hc2
          clear hc hc2
          go_wp2_with (go_at_call 25; ((with_reducible refine (OF.out _).mono ?_); rintro e w6 ⟨rfl, hb6⟩))
          go_ret
          exact ⟨ret_bool (by simp; omega), bst (hB.alloc hB.size _) hb6⟩
end Go.Proofs.Ytcngfcckajpkhaa
