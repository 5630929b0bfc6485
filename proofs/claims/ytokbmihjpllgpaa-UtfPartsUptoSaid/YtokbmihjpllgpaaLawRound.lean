/- The law of the round trip of runes. -/
import Derived.Test.YtokbmihjpllgpaaLawRepairs
set_option linter.unusedVariables false
namespace Go.Proofs.Ytokbmihjpllgpaa
open Go.RowKit Go.Shelf Go.Lib Go.BigFrame
attribute [local go_sem] Oper.semAt_some

/-- A slice of runes that lies wherever. -/
def ArgR (W : World) (v : Value) (l : List Int) : Prop := (v = .slice none 0 0 ∧ l = []) ∨ ∃ a cap, v = .slice (some a) l.length cap ∧ ∀ (j : Nat) (x : Int), l[j]? = some x → W.cell? (a.add j) = some (.int .i32 x)
theorem ArgR.form {W : World} {v : Value} {l : List Int} (h : ArgR W v l) : ∃ A cap, v = .slice A l.length cap ∧ (0 < l.length → ∃ b off, A = some ⟨b, off, none⟩ ∧ ∀ (j : Nat) (x : Int), l[j]? = some x → W.cell? ⟨b, off + j, none⟩ = some (.int .i32 x)) := by
  rcases h with ⟨rfl, rfl⟩ | ⟨a, cap, rfl, hc⟩
  · exact ⟨none, 0, rfl, fun h => absurd h (by simp)⟩
  · refine ⟨_, cap, rfl, fun h => ?_⟩
    obtain ⟨b, off, spot⟩ := a
    obtain ⟨x, hx⟩ : ∃ s, l[0]? = some s := ⟨_, List.getElem?_eq_getElem h⟩
    have hspot : spot = none := by simpa [Addr.add] using World.cell?_spot (hc 0 x hx)
    subst hspot
    exact ⟨b, off, rfl, fun j x hx => by have := hc j x hx; rwa [Go.WideShapes.add_plain] at this⟩
theorem argR_text (l : List Int) (W : World) (v : Value) (h : ArgR W v l) : (convert 41 9 v).run Try.prog W = .ok (.string ⟨(textB l).toArray⟩) W := by
  rcases h with ⟨rfl, rfl⟩ | ⟨a, cap, rfl, hc⟩
  · exact run_convert_runes_nil (P := Try.prog) W 41 9 21 0 0 Try.underlying41 Try.underlying21 Try.underlying9
  · have := run_convert_runes (P := Try.prog) W 41 9 21 a l.length cap l (Nat.le_refl _) Try.underlying41 Try.underlying21 Try.underlying9 (fun j hj => hc j _ (by simp [List.getD_eq_getElem?_getD, List.getElem?_eq_getElem hj]))
    rw [this, List.take_length, runesBytes_eq]
theorem textA_utf (l : List Int) (w : World) (v : Value) (h : ArgR w v l) :
    Calls Try.prog 33 #[v] w fun e w' => e = .returned (.string ⟨(textB l).toArray⟩) ∧ Below w.heap.size w w' := by
  have hc := argR_text l w v h
  clear h
  go_enter Try.func33, Try.ntmps33
  go_wp2
  go_ret
  exact ⟨rfl, Below.refl _ _⟩

set_option maxRecDepth 1000000 in
set_option maxHeartbeats 2000000 in
theorem utfRound_law (v : Value) (l : List Int) (w : World) (hl : l.length ≤ 1048576) (hr : ∀ x ∈ l, -2147483648 ≤ x ∧ x ≤ 2147483647) (hv : ArgR w v l) :
    Calls Try.prog 9 #[v] w fun e w' => e = .returned (.bool true) ∧ Below w.heap.size w w' := by
  have hs : (⟨(textB l).toArray⟩ : ByteArray).size ≤ 4194304 := by rw [U.size_eq]; have := textB_len l; simp only; omega
  have T1 := Lib.hid (textA_utf l w v hv)
  have R1 := fun w => runes_utf ⟨(textB l).toArray⟩ w hs
  rw [show runesL (⟨(textB l).toArray⟩ : ByteArray).data.toList = l.map fun r => (U.norm r : Int) from U.runesL_text l, List.length_map] at R1
  have R1 := Lib.hid R1
  obtain ⟨A, cp, rfl, hA⟩ := hv.form
  clear hv hs
  go_enter Try.func9, Try.ntmps9
  go_wp2_with (first
    | (go_at_call 33; (with_reducible refine T1.out.mono ?_); rintro e w1 ⟨rfl, hb1⟩)
    | (go_at_call 36; (with_reducible refine (R1.out _).mono ?_); rintro e w2 ⟨c2, rfl, hb2, hr2⟩))
  have hB0 : Below w.heap.size w w2 := bst hb1 hb2
  go_loopw [4] (fun i wr => ∃ k : Nat, i = .int .i64 (k : Int) ∧ k ≤ l.length ∧ wr = w2) (fun i _ => l.length - (intOf i).toNat)
  case atStart => exact ⟨0, rfl, Nat.zero_le _, rfl⟩
  case round =>
    obtain ⟨k, rfl, hk, rfl⟩ := hrel
    by_cases hlt : k < l.length
    · obtain ⟨b, off, rfl, hc⟩ := hA (by omega)
      obtain ⟨x, hx⟩ : ∃ s, l[k]? = some s := ⟨_, List.getElem?_eq_getElem hlt⟩
      have c0 : wr.cell? ⟨b, off + k, none⟩ = some (.int .i32 x) := (World.cell?_of_block (hB0.block b (World.block_lt_of_cell? _ _ (hc k x hx)))).trans (hc k x hx)
      have d0 := hr2 k (U.norm x : Int) (by rw [List.getElem?_map, hx]; rfl)
      have hxr := hr x (List.mem_of_getElem? hx)
      by_cases hb : x < 0 ∨ (55296 ≤ x ∧ x ≤ 57343) ∨ 1114111 < x
      · have hn : (U.norm x : Int) = 65533 := by unfold U.norm; rw [if_pos hb]; rfl
        rw [hn] at d0
        clear hx hc hr2 hA hr hn
        rcases hb with h | ⟨h, h'⟩ | h
        · go_wp2
          go_roundw
          case rel => exact ⟨k + 1, by go_num, hlt, by trivial⟩
          case measure => simp [intOf]; omega
        · have n1 : ¬ x < 0 := by omega
          have n2 : ¬ 1114111 < x := by omega
          go_wp2
          go_roundw
          case rel => exact ⟨k + 1, by go_num, hlt, by trivial⟩
          case measure => simp [intOf]; omega
        · have n1 : ¬ x < 0 := by omega
          go_wp2
          go_roundw
          case rel => exact ⟨k + 1, by go_num, hlt, by trivial⟩
          case measure => simp [intOf]; omega
      · have hn : (U.norm x : Int) = x := by unfold U.norm; rw [if_neg hb]; omega
        rw [hn] at d0
        have n1 : ¬ x < 0 := by omega
        have n2 : ¬ 1114111 < x := by omega
        have ns : x < 55296 ∨ 57343 < x := by omega
        clear hx hc hr2 hA hr hn hb
        rcases ns with ns | ns
        · have n3 : ¬ 55296 ≤ x := by omega
          go_wp2
          go_roundw
          case rel => exact ⟨k + 1, by go_num, hlt, by trivial⟩
          case measure => simp [intOf]; omega
        · have n3 : 55296 ≤ x := by omega
          have n4 : ¬ x ≤ 57343 := by omega
          go_wp2
          go_roundw
          case rel => exact ⟨k + 1, by go_num, hlt, by trivial⟩
          case measure => simp [intOf]; omega
    · obtain rfl : k = l.length := by omega
      go_wp2_with (go_at_call 19; refine (head_any _).mono ?_; rintro e w13 ⟨rfl, hb13⟩)
      go_ret
      exact ⟨rfl, bst hB0 hb13⟩
end Go.Proofs.Ytokbmihjpllgpaa
