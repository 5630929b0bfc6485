/- head: the chapter's first examples. -/
import Derived.Test.YtclblidfamabdaaBdHv
import Derived.Deep.RegionHeld3
import Derived.Deep.DeepCutAuto
set_option linter.unusedVariables false
set_option linter.unusedSimpArgs false
namespace Go.Proofs.Ytclblidfamabdaa
open Go.RowKit Go.Shelf Go.Lib Go.BigFrame
attribute [local go_sem] Oper.semAt_some

theorem rd_lit (W W' : World) (a b c d e : Int) (h : Below (W.heap.size + 1) (W.alloc (.cells #[.int .i64 a, .int .i64 b, .int .i64 c, .int .i64 d, .int .i64 e] 3)) W') : Rd W' (.slice (some ⟨W.heap.size, 0, none⟩) 5 5) (l5 a b c d e) 5 :=
  ⟨_, 5, rfl, Nat.le_refl _, fun _ => ⟨_, 0, rfl, fun j hj => by
    have hh : W'.heap[W.heap.size]? = some (.cells #[.int .i64 a, .int .i64 b, .int .i64 c, .int .i64 d, .int .i64 e] 3 (0, 0)) := (h.block _ (by omega)).trans (World.alloc_heap_new W _)
    rw [Nat.zero_add]
    simp only [World.cell?, hh]
    match j, hj with
    | 0, _ => rfl
    | 1, _ => rfl
    | 2, _ => rfl
    | 3, _ => rfl
    | 4, _ => rfl⟩⟩
set_option maxRecDepth 1000000 in
set_option maxHeartbeats 4000000 in
theorem head_any (w : World) : Calls Try.prog 16 #[] w fun e w' => e = .returned (.bool true) ∧ Below w.heap.size w w' := by
  have LV : Hid (∀ w, Calls Try.prog 18 #[.string hd1, .int .i64 0] w fun e w' => ∃ v, e = .returned (.tuple #[v, .int .i64 0]) ∧ Below w.heap.size w w' ∧ Rd w' v (fun j => ((B.lvAll 0 (B.kcl (U.toks hd1.data.toList)) 5 j : Nat) : Int)) 5) := Lib.hid (fun w => by
    refine (levels_at0 hd1 w (by decide) 5 hd1_n _ rfl).mono ?_
    rintro e w' ⟨v, h1, h2, h3⟩
    exact ⟨v, h1, h2, row_rd h3⟩)
  have VI : Hid (∀ w, Calls Try.prog 25 #[.string hd2, .int .i64 1] w fun e w' => e = .returned (.tuple #[.string hd2, .int .i64 0]) ∧ Below w.heap.size w w') := Lib.hid (fun w => by
    have := visual_any hd2 1 (.inr rfl) w (by decide)
    rw [hd2_vis] at this
    exact this)
  have BA : Hid (∀ w, Calls Try.prog 21 #[.string hd3, .int .i64 0] w fun e w' => e = .returned (.int .i64 1) ∧ Below w.heap.size w w') := Lib.hid (fun w => by
    have := base_any hd3 0 w (by decide) _ rfl _ rfl
    rw [hd3_base] at this
    exact this)
  obtain ⟨lf, hlf, hl5, ho5, hlb⟩ := hd1_lf
  rw [hlf] at LV
  -- the calls of the last statement
  have OR : Hid (∀ W v, Rd W v (fun j => (lf j : Int)) 5 → Calls Try.prog 23 #[v] W fun e w' => e = .returned (.slice (some ⟨W.heap.size, 0, none⟩) 5 5) ∧ Below W.heap.size W w' ∧ Rd w' (.slice (some ⟨W.heap.size, 0, none⟩) 5 5) (l5 0 1 3 2 4) 5) := Lib.hid (fun W v h => by
    refine (order_any 5 lf v W (by omega) hlb h).mono ?_
    rintro e w' ⟨rfl, h1, h2⟩
    exact ⟨rfl, h1, (h2.rd 5 (Nat.le_refl _)).congr ho5⟩)
  have SM : Hid (∀ W a b f, Rd W a f 5 → Rd W b f 5 → Calls Try.prog 20 #[a, b] W fun e w' => e = .returned (.bool true) ∧ Below W.heap.size W w') := Lib.hid (fun W a b f h1 h2 => by
    refine (same_any a b 5 5 f f W (by omega) (by omega) h1 h2).mono ?_
    rintro e w' ⟨⟨B, rfl, hB⟩, h3⟩
    obtain rfl : B = true := hB.2 ⟨rfl, fun _ _ => rfl⟩
    exact ⟨rfl, h3⟩)
  have HL5 := Lib.hid hl5
  clear hl5 ho5 hlb hlf
  have hs1 : (⟨#[97, 98, 215, 144, 215, 145, 99]⟩ : ByteArray) = hd1 := rfl
  have hs2 : (⟨#[40, 215, 144, 41]⟩ : ByteArray) = hd2 := rfl
  have hs3 : (⟨#[215, 144, 97]⟩ : ByteArray) = hd3 := rfl
  go_enter Try.func16, Try.ntmps16
  go_wp2_with (first
    | (go_at_call 18; (with_reducible refine (LV.out _).mono ?_); rintro e w1 ⟨v1, rfl, hb1, hr1⟩)
    | (go_at_call 25; (with_reducible refine (VI.out _).mono ?_); rintro e w2 ⟨rfl, hb2⟩)
    | (go_at_call 20; (with_reducible refine (SM.out _ _ _ (l5 0 0 1 1 0) ((hr1.below (hb2.alloc hb2.size _)).congr HL5.out) (rd_lit w2 _ 0 0 1 1 0 (Below.refl _ _))).mono ?_); rintro e w3 ⟨rfl, hb3⟩; have hb23 : Below w2.heap.size w2 w3 := bst ((Below.refl _ _).alloc (Nat.le_refl _) _) hb3)
    | (go_at_call 23; (with_reducible refine (OR.out _ _ (hr1.below (bst hb2 hb23))).mono ?_); rintro e w4 ⟨rfl, hb4, hr4⟩)
    | (go_at_call 20; (with_reducible refine (SM.out _ _ _ (l5 0 1 3 2 4) (hr4.below ((Below.refl _ _).alloc (Nat.le_refl _) _)) (rd_lit w4 _ 0 1 3 2 4 (Below.refl _ _))).mono ?_); rintro e w5 ⟨rfl, hb5⟩; have hb45 : Below w4.heap.size w4 w5 := bst ((Below.refl _ _).alloc (Nat.le_refl _) _) hb5)
    | (go_at_call 21; (with_reducible refine (BA.out _).mono ?_); rintro e w6 ⟨rfl, hb6⟩)
    | fail)
  go_ret
  exact ⟨rfl, bst (bst (bst (bst (bst hb1 hb2) hb23) hb4) hb45) hb6⟩
end Go.Proofs.Ytclblidfamabdaa
