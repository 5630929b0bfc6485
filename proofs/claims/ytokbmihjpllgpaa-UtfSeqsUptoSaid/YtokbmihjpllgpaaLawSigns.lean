/- The law of the signs. -/
import Derived.Test.YtokbmihjpllgpaaHead
set_option linter.unusedVariables false
namespace Go.Proofs.Ytokbmihjpllgpaa
open Go.RowKit Go.Shelf Go.Lib Go.BigFrame
attribute [local go_sem] Oper.semAt_some

theorem bst {w a b : World} (h : Below w.heap.size w a) (k : Below a.heap.size a b) : Below w.heap.size w b := h.trans (k.mono h.size)

set_option maxRecDepth 1000000 in
set_option maxHeartbeats 400000 in
theorem utfSigns_law (s : ByteArray) (hs : s.size ≤ 1048576) (w : World) : Calls Try.prog 3 #[.string s] w fun e w' => e = .returned (.bool true) ∧ Below w.heap.size w w' := by
  have hs' : s.size ≤ 4194304 := by omega
  have hll := signs_len_le s
  have hl2 : (U.signs s.data.toList).length ≤ 4194304 := by omega
  go_enter Try.func3, Try.ntmps3
  go_wp2_with (first
    | (go_at_call 19; refine (head_any _).mono ?_; rintro e w1 ⟨rfl, hb1⟩)
    | (go_at_call 21; refine (all_any _ _ hs').mono ?_; rintro e w2 ⟨v2, rfl, hb2, hr2⟩)
    | (go_at_call 22; refine (signsR_any _ _ hs').mono ?_; rintro e w3 ⟨v3, rfl, hb3, hr3⟩)
    | (go_at_call 20; refine (alike_same _ _ _ _ _ _ hl2 (fun x hx => U.signs_rune _ x hx) (own_below hr2 hb3) hr3).mono ?_; rintro e w4 ⟨rfl, hb4⟩)
    | (go_at_call 23; refine (count_any _ _ hs).mono ?_; rintro e w5 ⟨rfl, hb5⟩)
    | (go_at_call 24; refine (countR_any _ _ hs').mono ?_; rintro e w6 ⟨rfl, hb6⟩)
    | (go_at_call 25; refine (pairs_utf _ _ hs').mono ?_; rintro e w7 ⟨rfl, hb7⟩)
    | (go_at_call 26; refine (pairsR_any _ _ hs').mono ?_; rintro e w8 ⟨rfl, hb8⟩))
  go_ret
  refine ⟨rfl, ?_⟩
  repeat (first | assumption | refine bst ?_ ‹_›)
end Go.Proofs.Ytokbmihjpllgpaa
