/- The law of the runes. -/
import Derived.Test.YtokbmihjpllgpaaRepair
set_option linter.unusedVariables false
namespace Go.Proofs.Ytokbmihjpllgpaa
open Go.RowKit Go.Shelf Go.Lib Go.BigFrame
attribute [local go_sem] Oper.semAt_some

set_option maxRecDepth 1000000 in
set_option maxHeartbeats 1000000 in
theorem utfRunes_law (s : ByteArray) (hs : s.size ≤ 1048576) (w : World) : Calls Try.prog 11 #[.string s] w fun e w' => e = .returned (.bool true) ∧ Below w.heap.size w w' := by
  have hs' : s.size ≤ 4194304 := by omega
  have hrl : (runesL s.data.toList).length ≤ 4194304 := by rw [runesL_len]; have := toks_len (s := s); omega
  have hbl : (badsL (U.signs s.data.toList)).length ≤ 4194304 := by have := badsL_len (U.signs s.data.toList); have := signs_len_le s; omega
  have RU := Lib.hid (fun w => runes_utf s w hs')
  have RR := Lib.hid (fun w => runesR_any s w hs')
  have BU := Lib.hid (fun w => badsU_any s w hs')
  have BR := Lib.hid (fun w => badsR_any s w hs')
  have PU := Lib.hid (fun w => repairU_any s w hs')
  have PR := Lib.hid (fun w => repairR_any s w hs')
  have IN := Lib.hid (fun g cap w h => ints_any g cap (runesL s.data.toList) w hrl (runesL_range _) h (some ⟨g, 0, none⟩) (fun _ => rfl))
  have S1 := Lib.hid (fun v r b1 b2 w h1 h2 => same_any v r (runesL s.data.toList) b1 b2 w hrl h1 h2)
  have S2 := Lib.hid (fun v r b1 b2 w h1 h2 => same_any v r (badsL (U.signs s.data.toList)) b1 b2 w hbl h1 h2)
  obtain ⟨R, hR⟩ : ∃ R, repB s = R := ⟨_, rfl⟩
  obtain ⟨n, hn⟩ : ∃ R, badsN s = R := ⟨_, rfl⟩
  rw [hR, hn] at PU PR
  obtain ⟨l, hl⟩ : ∃ l, runesL s.data.toList = l := ⟨_, rfl⟩
  obtain ⟨b, hbb⟩ : ∃ l, badsL (U.signs s.data.toList) = l := ⟨_, rfl⟩
  rw [hl] at RU RR IN S1
  rw [hbb] at BU BR S2
  clear hR hn hl hbb hrl hbl
  go_enter Try.func11, Try.ntmps11
  go_wp2_with (first
    | (go_at_call 19; refine (head_any _).mono ?_; rintro e w1 ⟨rfl, hb1⟩)
    | (go_at_call 38; (with_reducible refine (PU.out _).mono ?_); rintro e w2 ⟨rfl, hb2⟩)
    | (go_at_call 39; (with_reducible refine (PR.out _).mono ?_); rintro e w3 ⟨rfl, hb3⟩)
    | (go_at_call 36; (with_reducible refine (RU.out _).mono ?_); rintro e w4 ⟨cp4, rfl, hb4, hr4⟩)
    | (go_at_call 35; (with_reducible refine (IN.out _ _ _ hr4).mono ?_); rintro e w5 ⟨v5, rfl, hb5, hr5⟩)
    | (go_at_call 41; (with_reducible refine (RR.out _).mono ?_); rintro e w6 ⟨v6, rfl, hb6, hr6⟩)
    | (go_at_call 40; (with_reducible refine (S1.out _ _ _ _ _ (own_below hr5 hb6) hr6).mono ?_); rintro e w7 ⟨rfl, hb7⟩)
    | (go_at_call 42; (with_reducible refine (BU.out _).mono ?_); rintro e w8 ⟨v8, rfl, hb8, hr8⟩)
    | (go_at_call 43; (with_reducible refine (BR.out _).mono ?_); rintro e w9 ⟨v9, rfl, hb9, hr9⟩)
    | (go_at_call 40; (with_reducible refine (S2.out _ _ _ _ _ (own_below hr8 hb9) hr9).mono ?_); rintro e w10 ⟨rfl, hb10⟩))
  go_ret
  refine ⟨rfl, ?_⟩
  repeat (first | assumption | refine bst ?_ ‹_›)
end Go.Proofs.Ytokbmihjpllgpaa
