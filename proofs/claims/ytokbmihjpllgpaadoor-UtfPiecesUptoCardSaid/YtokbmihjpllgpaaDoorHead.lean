/- The law's 'head': the facts of one small text. -/
import Derived.Test.YtokbmihjpllgpaaDoorMelts
import Derived.Test.YtokbmihjpllgpaaDoorPlace
import Derived.Test.YtokbmihjpllgpaaDoorPairs
set_option linter.unusedVariables false
namespace Go.Proofs.YtokbmihjpllgpaaDoor
open Go.RowKit Go.Shelf Go.Lib Go.BigFrame
attribute [local go_sem] Oper.semAt_some

def hs0 : ByteArray := ⟨#[97, 195, 169, 195, 240, 159, 152, 128]⟩
theorem hs_toks : (U.toks hs0.data.toList).length = 4 := by decide
theorem hs_usum : U.usum 3 (U.toks hs0.data.toList) = 5 := by decide
theorem hs_m1 : meltsB [195] [169] = true := by decide
theorem hs_m2 : meltsB [97] [169] = false := by decide
theorem hs_place : U.place 3 2 5 (U.toks hs0.data.toList) = (4, 0) := by decide
theorem hs_size : hs0.size ≤ 1048576 := by decide

theorem hc_place (w : World) : Calls Tryd.prog 23 #[.string hs0, .int .i64 5, .int .i64 3, .int .i64 2] w fun e w' => e = .returned (.tuple #[.int .i64 4, .int .i64 0]) ∧ Below w.heap.size w w' := by
  refine (place_main hs0 5 3 2 w (Nat.le_trans hs_size (by omega)) (by omega) (by omega) (by omega)).mono ?_
  rintro e w' ⟨rfl, hb⟩
  rw [hs_place]
  exact ⟨rfl, hb⟩
theorem hc_count (w : World) : Calls Tryd.prog 24 #[.string hs0] w fun e w' => e = .returned (.int .i64 4) ∧ Below w.heap.size w w' := by
  refine (count_any hs0 w hs_size).mono ?_
  rintro e w' ⟨rfl, hb⟩
  rw [hs_toks]
  exact ⟨rfl, hb⟩
theorem hc_pairs (w : World) : Calls Tryd.prog 25 #[.string hs0] w fun e w' => e = .returned (.int .i64 5) ∧ Below w.heap.size w w' := by
  refine (pairs_utf hs0 w (Nat.le_trans hs_size (by omega))).mono ?_
  rintro e w' ⟨rfl, hb⟩
  rw [hs_usum]
  exact ⟨rfl, hb⟩
theorem hc_m1 : (Value.bool (meltsB (ByteArray.mk #[195]).data.toList (ByteArray.mk #[169]).data.toList)) = .bool true := congrArg Value.bool hs_m1
theorem hc_m2 : (Value.bool (meltsB (ByteArray.mk #[97]).data.toList (ByteArray.mk #[169]).data.toList)) = .bool false := congrArg Value.bool hs_m2

set_option maxRecDepth 1000000 in
set_option maxHeartbeats 400000 in
theorem head_any (w : World) : Calls Tryd.prog 12 #[] w fun e w' => e = .returned (.bool true) ∧ Below w.heap.size w w' := by
  go_enter Tryd.func12, Tryd.ntmps12
  go_wp2_with (first
    | (go_at_call 23; refine (hc_place _).mono ?_; rintro e w1 ⟨rfl, hb1⟩)
    | (go_at_call 24; refine (hc_count _).mono ?_; rintro e w2 ⟨rfl, hb2⟩)
    | (go_at_call 25; refine (hc_pairs _).mono ?_; rintro e w3 ⟨rfl, hb3⟩)
    | (go_at_call 26; refine (melts_any _ _ _ (by decide) (by decide)).mono ?_; rintro e w4 ⟨rfl, hb4⟩; rw [hc_m1])
    | (go_at_call 26; refine (melts_any _ _ _ (by decide) (by decide)).mono ?_; rintro e w5 ⟨rfl, hb5⟩; rw [hc_m2]))
  go_ret
  have h2 := hb1.trans (hb2.mono hb1.size)
  have h3 := h2.trans (hb3.mono h2.size)
  have h4 := h3.trans (hb4.mono h3.size)
  exact ⟨rfl, h4.trans (hb5.mono h4.size)⟩
end Go.Proofs.YtokbmihjpllgpaaDoor
