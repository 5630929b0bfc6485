/- The laws of widths: of any numbers, of a row of numbers; chapter 2's numbers. -/
import Derived.Test.YtcngfcckajpkhaaCellK
set_option linter.unusedVariables false
set_option linter.unusedSimpArgs false
namespace Go.Proofs.Ytcngfcckajpkhaa
open Go.RowKit Go.Shelf Go.Lib Go.BigFrame
attribute [local go_sem] Oper.semAt_some

/-- A list of numbers as it is handed in. -/
def ArgN (W : World) (v : Value) (l : List Int) : Prop := (v = .slice none 0 0 ∧ l = []) ∨ ∃ a cap, v = .slice (some a) l.length cap ∧ ∀ (j : Nat) (x : Int), l[j]? = some x → W.cell? (a.add j) = some (.int .i64 x)
theorem ArgN.form {W : World} {v : Value} {l : List Int} (h : ArgN W v l) : ∃ A cap, v = .slice A l.length cap ∧ (0 < l.length → ∃ b off, A = some ⟨b, off, none⟩ ∧ ∀ (j : Nat) (x : Int), l[j]? = some x → W.cell? ⟨b, off + j, none⟩ = some (.int .i64 x)) := by
  rcases h with ⟨rfl, rfl⟩ | ⟨a, cap, rfl, hc⟩
  · exact ⟨none, 0, rfl, fun h => absurd h (by simp)⟩
  · refine ⟨_, cap, rfl, fun h => ?_⟩
    obtain ⟨b, off, spot⟩ := a
    obtain ⟨x, hx⟩ : ∃ s, l[0]? = some s := ⟨_, List.getElem?_eq_getElem h⟩
    have hspot : spot = none := by simpa [Addr.add] using World.cell?_spot (hc 0 x hx)
    subst hspot
    exact ⟨b, off, rfl, fun j x hx => by have := hc j x hx; rwa [Go.WideShapes.add_plain] at this⟩

set_option maxRecDepth 1000000 in
set_option maxHeartbeats 2000000 in
theorem cellWidths_law (v : Value) (l : List Int) (w : World) (hl : l.length ≤ 1048576) (hr : ∀ x ∈ l, -9223372036854775808 ≤ x ∧ x ≤ 9223372036854775807) (hv : ArgN w v l) :
    Calls Try.prog 3 #[v] w fun e w' => e = .returned (.bool true) ∧ Below w.heap.size w w' := by
  obtain ⟨A, cap, rfl, hA⟩ := hv.form
  clear hv
  go_enter Try.func3, Try.ntmps3
  go_wp2_with (go_at_call 19; refine (known_any _).mono ?_; rintro e w1 ⟨rfl, hb1⟩)
  go_loopw [3] (fun i wr => ∃ k : Nat, i = .int .i64 (k : Int) ∧ k ≤ l.length ∧ Below w.heap.size w wr) (fun i _ => l.length - (intOf i).toNat)
  case atStart => exact ⟨0, rfl, Nat.zero_le _, hb1⟩
  case round =>
    obtain ⟨k, rfl, hk, hB⟩ := hrel
    by_cases hlt : k < l.length
    · obtain ⟨b, off, rfl, hc⟩ := hA (by omega)
      obtain ⟨x, hx⟩ : ∃ s, l[k]? = some s := ⟨_, List.getElem?_eq_getElem hlt⟩
      have c0 : wr.cell? ⟨b, off + k, none⟩ = some (.int .i64 x) := (World.cell?_of_block (hB.block b (World.block_lt_of_cell? _ _ (hc k x hx)))).trans (hc k x hx)
      clear hx hc hr hA
      go_wp2_with (first
        | (go_at_call 20; refine (width_any _ _).mono ?_; rintro e w2 ⟨rfl, rfl⟩)
        | (go_at_call 21; refine (widthR_any _ _).mono ?_; rintro e w3 ⟨rfl, rfl⟩))
      go_roundw
      case rel => exact ⟨k + 1, by go_num, hlt, hB⟩
      case measure => simp [intOf]; omega
    · obtain rfl : k = l.length := by omega
      go_wp2
      go_ret
      exact ⟨rfl, hB⟩

set_option maxRecDepth 1000000 in
set_option maxHeartbeats 2000000 in
theorem cellRange_law (from_ n : Int) (x0 : (Lit.int .i64 from_).wf = true) (x1 : (Lit.int .i64 n).wf = true) (w : World) :
    Calls Try.prog 4 #[.int .i64 from_, .int .i64 n] w fun e w' => e = .returned (.bool true) ∧ Below w.heap.size w w' := by
  have w0 : -9223372036854775808 ≤ from_ ∧ from_ ≤ 9223372036854775807 := by simpa [Lit.wf, IntKind.min, IntKind.max, IntKind.signed, IntKind.bits] using x0
  have w1 : -9223372036854775808 ≤ n ∧ n ≤ 9223372036854775807 := by simpa [Lit.wf, IntKind.min, IntKind.max, IntKind.signed, IntKind.bits] using x1
  clear x0 x1
  go_enter Try.func4, Try.ntmps4
  go_wp2_with (go_at_call 19; refine (known_any _).mono ?_; rintro e w1 ⟨rfl, hb1⟩)
  go_loopw [5] (fun i wr => ∃ k : Nat, i = .int .i64 (k : Int) ∧ k ≤ 5000 ∧ Below w.heap.size w wr) (fun i _ => 5000 - (intOf i).toNat)
  case atStart => exact ⟨0, rfl, Nat.zero_le _, hb1⟩
  case round =>
    obtain ⟨k, rfl, hk, hB⟩ := hrel
    by_cases hn : (k : Int) < n
    · by_cases hlt : k < 5000
      · have hlt' : (k : Int) < 5000 := by omega
        go_wp2_with (first
          | (go_at_call 20; refine (width_any _ _).mono ?_; rintro e w2 ⟨rfl, rfl⟩)
          | (go_at_call 21; refine (widthR_any _ _).mono ?_; rintro e w3 ⟨rfl, rfl⟩))
        go_roundw
        case rel => exact ⟨k + 1, by go_num, hlt, hB⟩
        case measure => simp [intOf]; omega
      · have hlt' : ¬ (k : Int) < 5000 := by omega
        go_wp2
        go_ret
        exact ⟨rfl, hB⟩
    · go_wp2
      go_ret
      exact ⟨rfl, hB⟩

set_option maxRecDepth 1000000 in
theorem cellNames_law (w : World) : Calls Try.prog 6 #[] w fun e w' => e = .returned (.bool true) ∧ Below w.heap.size w w' := by
  have hw : C.wid 97 = 1 := by decide
  go_enter Try.func6, Try.ntmps6
  go_wp2_with (first
    | (go_at_call 19; refine (known_any _).mono ?_; rintro e w1 ⟨rfl, hb1⟩)
    | (go_at_call 20; refine (width_any _ _).mono ?_; rintro e w2 ⟨rfl, rfl⟩; rw [hw]))
  go_ret
  exact ⟨rfl, hb1⟩
end Go.Proofs.Ytcngfcckajpkhaa
