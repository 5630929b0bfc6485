/- The law of levels: as the document's. -/
import Derived.Test.YtclblidfamabdaaG11
import Derived.Test.YtclblidfamabdaaG18
set_option linter.unusedVariables false
set_option linter.unusedSimpArgs false
namespace Go.Proofs.Ytclblidfamabdaa
open Go.RowKit Go.Shelf Go.Lib Go.BigFrame
attribute [local go_sem] Oper.semAt_some

/-- The document tells another base than 0 and 1. -/
theorem levelsR_bad (s : ByteArray) (base : Int) (h0 : base ≠ 0) (h1 : base ≠ 1) (w : World) :
    Calls Try.prog 19 #[.string s, .int .i64 base] w fun e w' => e = .returned (.tuple #[.slice none 0 0, .int .i64 1]) ∧ w = w' := by
  have b0 : (base != 0) = true := by simp [h0]
  have b1 : (base != 1) = true := by simp [h1]
  go_enter Try.func19, Try.ntmps19
  go_wp2
  refine bodyPost_ret (results_tmp2 rfl _ _ _) rfl ?_
  exact ⟨rfl, rfl⟩

set_option maxRecDepth 1000000 in
set_option maxHeartbeats 4000000 in
theorem bidiLevels_law (x0 : ByteArray) (x1 : Int) (hs : x0.size ≤ 1048576) (h1w : (Lit.int .i64 x1).wf = true) (w : World) :
    Calls Try.prog 5 #[.string x0, .int .i64 x1] w fun e w' => e = .returned (.bool true) ∧ Below w.heap.size w w' := by
  have hs4 : x0.size ≤ 4194304 := by omega
  obtain ⟨n, hn⟩ : ∃ n, (C.clus (U.toks x0.data.toList)).length = n := ⟨_, rfl⟩
  obtain ⟨c, hc⟩ : ∃ c, B.kcl (U.toks x0.data.toList) = c := ⟨_, rfl⟩
  have hlen : (C.clus (U.toks x0.data.toList)).length ≤ x0.size := Nat.le_trans (C.clus_length_le _) toks_len
  rw [hn] at hlen
  have BA := Lib.hid (fun w => base_any x0 x1 w hs4 n hn c hc)
  have BR := Lib.hid (fun w => baseR_any x0 x1 w hs4 n hn c hc)
  have HE := Lib.hid (fun w => head_any w)
  obtain ⟨R, hR⟩ : ∃ r, bseI c n x1 = r := ⟨_, rfl⟩
  rw [hR] at BA BR
  have SM : Hid (∀ W a b m f, m ≤ 4194304 → Rd W a f m → Rd W b f m → Calls Try.prog 20 #[a, b] W fun e w' => e = .returned (.bool true) ∧ Below W.heap.size W w') := Lib.hid (fun W a b m f hm h1 h2 => by
    refine (same_any a b m m f f W (by omega) (by omega) h1 h2).mono ?_
    rintro e w' ⟨⟨B, rfl, hB⟩, h3⟩
    obtain rfl : B = true := hB.2 ⟨rfl, fun _ _ => rfl⟩
    exact ⟨rfl, h3⟩)
  have LL : Hid (∃ m f er, m ≤ 4194304 ∧ (∀ w, Calls Try.prog 18 #[.string x0, .int .i64 x1] w fun e w' => ∃ v, e = .returned (.tuple #[v, .int .i64 er]) ∧ Below w.heap.size w w' ∧ Rd w' v f m) ∧ (∀ w, Calls Try.prog 19 #[.string x0, .int .i64 x1] w fun e w' => ∃ v, e = .returned (.tuple #[v, .int .i64 er]) ∧ Below w.heap.size w w' ∧ Rd w' v f m)) := Lib.hid (by
    by_cases hb : x1 = 0 ∨ x1 = 1
    · obtain ⟨b, hb2, rfl⟩ : ∃ b : Nat, (b = 0 ∨ b = 1) ∧ x1 = (b : Int) := ⟨x1.toNat, by omega, by omega⟩
      refine ⟨n, lvI b n c, 0, by omega, fun w => ?_, fun w => ?_⟩
      · refine (levels_any x0 b hb2 w hs4 n hn c hc).mono ?_
        rintro e w' ⟨v, h1, h2, h3⟩
        exact ⟨v, h1, h2, row_rd h3⟩
      · refine (levelsR_any x0 b hb2 w hs4 n hn c hc).mono ?_
        rintro e w' ⟨v, h1, h2, h3⟩
        exact ⟨v, h1, h2, row_rd h3⟩
    · refine ⟨0, fun _ => 0, 1, by omega, fun w => ?_, fun w => ?_⟩
      · refine (levels_bad x0 x1 (fun h => hb (.inl h)) (fun h => hb (.inr h)) w).mono ?_
        rintro e w' ⟨h1, rfl⟩
        exact ⟨_, h1, Below.refl _ _, none, 0, rfl, Nat.le_refl _, fun h => absurd h (Nat.lt_irrefl _)⟩
      · refine (levelsR_bad x0 x1 (fun h => hb (.inl h)) (fun h => hb (.inr h)) w).mono ?_
        rintro e w' ⟨h1, rfl⟩
        exact ⟨_, h1, Below.refl _ _, none, 0, rfl, Nat.le_refl _, fun h => absurd h (Nat.lt_irrefl _)⟩)
  obtain ⟨m, f, er, hm, LA, LB⟩ := LL.out
  have LA := Lib.hid LA
  have LB := Lib.hid LB
  clear hn hc hR LL
  go_enter Try.func5, Try.ntmps5
  go_wp2_with (first
    | (go_at_call 18; (with_reducible refine (LA.out _).mono ?_); rintro e w1 ⟨v1, rfl, hb1, hr1⟩)
    | (go_at_call 19; (with_reducible refine (LB.out _).mono ?_); rintro e w2 ⟨v2, rfl, hb2, hr2⟩)
    | (go_at_call 20; (with_reducible refine (SM.out _ _ _ _ _ hm (hr1.below hb2) hr2).mono ?_); rintro e w3 ⟨rfl, hb3⟩)
    | (go_at_call 21; (with_reducible refine (BA.out _).mono ?_); rintro e w4 ⟨rfl, hb4⟩)
    | (go_at_call 22; (with_reducible refine (BR.out _).mono ?_); rintro e w5 ⟨rfl, hb5⟩)
    | (go_at_call 16; (with_reducible refine (HE.out _).mono ?_); rintro e w6 ⟨rfl, hb6⟩)
    | fail)
  go_ret
  exact ⟨rfl, bst (bst (bst (bst (bst hb1 hb2) hb3) hb4) hb5) hb6⟩
end Go.Proofs.Ytclblidfamabdaa
