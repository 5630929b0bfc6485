/- Same, within; Visual at another base. -/
import Derived.Test.YtclblidfamabdaaG10
import Derived.Deep.RegionHeld3
import Derived.Deep.DeepCutAuto
set_option linter.unusedVariables false
set_option linter.unusedSimpArgs false
namespace Go.Proofs.Ytclblidfamabdaa
open Go.RowKit Go.Shelf Go.Lib Go.BigFrame
attribute [local go_sem] Oper.semAt_some

set_option maxRecDepth 1000000 in
theorem same_any (a b : Value) (n m : Nat) (c d : Nat → Int) (w : World) (hn : n ≤ 8388608) (hm : m ≤ 8388608) (ha : Rd w a c n) (hb : Rd w b d m) :
    Calls Try.prog 20 #[a, b] w fun e w' => (∃ B, e = .returned (.bool B) ∧ (B = true ↔ n = m ∧ ∀ j, j < n → c j = d j)) ∧ Below w.heap.size w w' := by
  obtain ⟨RA, rc, rfl, hrl, hr1⟩ := ha
  obtain ⟨CA, cc, rfl, hcl, hc1⟩ := hb
  have HR := Lib.hid hr1
  have HC := Lib.hid hc1
  clear hr1 hc1
  by_cases hnm : n = m
  · subst hnm
    go_enter Try.func20, Try.ntmps20
    go_wp2
    go_loopw [5] (fun i wr => ∃ k : Nat, i = .int .i64 (k : Int) ∧ k ≤ n ∧ (∀ j, j < k → c j = d j) ∧ ∃ q, wr = w.drewN q) (fun i _ => n - (RowKit.intOf i).toNat)
    case atStart => exact ⟨0, rfl, Nat.zero_le _, fun j h => absurd h (Nat.not_lt_zero _), 0, rfl⟩
    case round =>
      obtain ⟨k, rfl, hk, hno, q, rfl⟩ := hrel
      by_cases hlt : k < n
      · obtain ⟨rg, ro, rfl, hrc⟩ := HR.out (by omega)
        obtain ⟨cg, co, rfl, hcc⟩ := HC.out (by omega)
        have r0 := hrc k hlt
        have c0 := hcc k hlt
        have HNO := Lib.hid hno
        obtain ⟨x, hx⟩ : ∃ x, c k = x := ⟨_, rfl⟩
        obtain ⟨y, hy⟩ : ∃ y, d k = y := ⟨_, rfl⟩
        rw [hx] at r0
        rw [hy] at c0
        have HX := Lib.hid (And.intro hx hy)
        clear hrc hcc hno hx hy
        by_cases hxy : x = y
        · subst hxy
          go_wp2
          go_quiet (fail)
          go_wp2
          go_roundw
          case rel =>
            refine ⟨k + 1, by go_num, hlt, fun j hj => ?_, ?_⟩
            · rcases Nat.lt_or_ge j k with h | h
              · exact HNO.out j h
              · obtain rfl : j = k := by omega
                rw [HX.out.1, HX.out.2]
            · first | exact ⟨_, rfl⟩ | exact ⟨q + nq, rfl⟩ | exact ⟨q + nq, by simp [World.drewN]⟩
          case measure => simp [RowKit.intOf]; omega
        · have hb : (x != y) = true := by simp [hxy]
          have HN := Lib.hid hxy
          clear hxy
          go_wp2
          go_quiet (fail)
          go_wp2
          go_ret
          exact ⟨⟨false, rfl, by constructor <;> intro h; cases h; exact absurd (HX.out.1.symm.trans ((h.2 k hlt).trans HX.out.2)) HN.out⟩, by (repeat' (first | (with_reducible exact Below.refl _ _) | (with_reducible assumption) | (with_reducible refine below_dn ?_ _) | (with_reducible refine Below.drew ?_) | (with_reducible refine Below.alloc ?_ ?_ _) | (with_reducible refine Below.setCell ?_ ?_ _) | go_size))⟩
      · obtain rfl : k = n := by omega
        have HNO := Lib.hid hno
        clear hno
        go_wp2
        go_ret
        exact ⟨⟨true, rfl, by simp; exact HNO.out⟩, by (repeat' (first | (with_reducible exact Below.refl _ _) | (with_reducible assumption) | (with_reducible refine below_dn ?_ _) | (with_reducible refine Below.drew ?_) | (with_reducible refine Below.alloc ?_ ?_ _) | (with_reducible refine Below.setCell ?_ ?_ _) | go_size))⟩
  · have hb : ((n : Int) != (m : Int)) = true := by simp; omega
    have HN := Lib.hid hnm
    clear hnm
    go_enter Try.func20, Try.ntmps20
    go_wp2
    go_ret
    exact ⟨⟨false, rfl, by constructor <;> intro h; cases h; exact absurd h.1 HN.out⟩, Below.refl _ _⟩
theorem within4_any (at_ : Int) (n : Nat) (w : World) (hn : 1 ≤ n) (hm : n ≤ 9223372036854775807) :
    Calls Try.prog 17 #[.int .i64 at_, .int .i64 (n : Int)] w fun e w' => e = .returned (.int .i64 (at_ % (n : Int))) ∧ w = w' := by
  have HT := Lib.hid (show at_.tmod (n : Int) = if 0 ≤ at_ then at_ % (n : Int) else - ((-at_) % (n : Int)) by
    split
    · exact Int.tmod_eq_emod_of_nonneg ‹_›
    · rw [← Int.neg_neg at_, Int.neg_tmod, Int.neg_neg, Int.tmod_eq_emod_of_nonneg (by omega)])
  have h1 := Int.emod_nonneg at_ (show (n : Int) ≠ 0 by omega)
  have h2 := Int.emod_lt_of_pos at_ (show 0 < (n : Int) by omega)
  have h3 := Int.emod_nonneg (-at_) (show (n : Int) ≠ 0 by omega)
  have h4 := Int.emod_lt_of_pos (-at_) (show 0 < (n : Int) by omega)
  have hneg : ¬ 0 ≤ at_ → (-at_) % (n : Int) ≠ 0 → at_ % (n : Int) = n - (-at_) % (n : Int) := fun _ hz => by
    have e : at_ = - (-at_) := by omega
    have q1 := Int.mul_ediv_add_emod (-at_) (n : Int)
    have e2 : at_ = ((n : Int) - (-at_) % (n : Int)) + (n : Int) * (-((-at_) / (n : Int)) - 1) := by
      rw [Int.mul_sub, Int.mul_neg]; omega
    rw [e2, Int.add_mul_emod_self_left, ← e2]
    exact Int.emod_eq_of_lt (by omega) (by omega)
  have hzer : ¬ 0 ≤ at_ → (-at_) % (n : Int) = 0 → at_ % (n : Int) = 0 := fun _ hz => by
    have q1 := Int.mul_ediv_add_emod (-at_) (n : Int)
    have e2 : at_ = 0 + (n : Int) * (-((-at_) / (n : Int))) := by rw [Int.mul_neg]; omega
    rw [e2, Int.add_mul_emod_self_left]; rfl
  have HN := Lib.hid hneg
  have HZ := Lib.hid hzer
  have H1 := Lib.hid h1
  have H2 := Lib.hid h2
  have H3 := Lib.hid h3
  have H4 := Lib.hid h4
  clear h1 h2 h3 h4 hneg hzer
  go_enter Try.func17, Try.ntmps17
  go_wp2
  · have hl : at_.tmod (n : Int) < 0 := by assumption
    go_ret
    refine ⟨rC_int ?_, rfl⟩
    have t := HT.out
    have h1 := H1.out
    have h2 := H2.out
    have h3 := H3.out
    have h4 := H4.out
    by_cases h0 : 0 ≤ at_
    · rw [if_pos h0] at t; omega
    · rw [if_neg h0] at t
      have := HN.out (by omega) (by omega)
      show wrap64 (at_.tmod n + n) = _
      rw [t, IntWalk.wrap64_in _ (by omega)]
      omega
  · have hl : 0 ≤ at_.tmod (n : Int) := by assumption
    go_ret
    refine ⟨rC_int ?_, rfl⟩
    have t := HT.out
    have h1 := H1.out
    have h3 := H3.out
    show at_.tmod n = _
    by_cases h0 : 0 ≤ at_
    · rw [if_pos h0] at t; exact t
    · rw [if_neg h0] at t
      have := HZ.out (by omega) (by omega)
      omega

end Go.Proofs.Ytclblidfamabdaa

/- head: the chapter's first examples: the values. -/
set_option linter.unusedVariables false
set_option linter.unusedSimpArgs false
namespace Go.Proofs.Ytclblidfamabdaa
open Go.RowKit Go.Shelf Go.Lib Go.BigFrame
attribute [local go_sem] Oper.semAt_some

def hd1 : ByteArray := ⟨#[97, 98, 215, 144, 215, 145, 99]⟩
def hd2 : ByteArray := ⟨#[40, 215, 144, 41]⟩
def hd3 : ByteArray := ⟨#[215, 144, 97]⟩
theorem hd1_n : (C.clus (U.toks hd1.data.toList)).length = 5 := by decide +kernel
theorem hd1_lv : ∀ j : Fin 5, B.lvAll 0 (B.kcl (U.toks hd1.data.toList)) 5 j.1 = ([0, 0, 1, 1, 0] : List Nat).getD j.1 0 := by decide +kernel
theorem hd1_ord : ∀ j : Fin 5, B.ord (B.lvAll 0 (B.kcl (U.toks hd1.data.toList)) 5) 5 j.1 = ([0, 1, 3, 2, 4] : List Nat).getD j.1 0 := by decide +kernel
theorem hd2_vis : visV hd2 1 = (hd2, 0) := by decide +kernel
theorem hd3_base : bseI (B.kcl (U.toks hd3.data.toList)) (C.clus (U.toks hd3.data.toList)).length 0 = 1 := by decide +kernel
def l5 (a b c d e : Int) (j : Nat) : Int := ([a, b, c, d, e] : List Int).getD j 0
theorem get5 (a b c d e j : Nat) (hj : j < 5) : ((([a, b, c, d, e] : List Nat).getD j 0 : Nat) : Int) = l5 a b c d e j := by
  match j, hj with
  | 0, _ => rfl
  | 1, _ => rfl
  | 2, _ => rfl
  | 3, _ => rfl
  | 4, _ => rfl
theorem hd1_lf : ∃ lf : Nat → Nat, B.lvAll 0 (B.kcl (U.toks hd1.data.toList)) 5 = lf ∧ (∀ j, j < 5 → (lf j : Int) = l5 0 0 1 1 0 j) ∧ (∀ j, j < 5 → (B.ord lf 5 j : Int) = l5 0 1 3 2 4 j) ∧ (∀ j, j < 5 → lf j ≤ 67108864) := by
  have h1 := hd1_lv
  have h2 := hd1_ord
  obtain ⟨lf, hlf⟩ : ∃ f, B.lvAll 0 (B.kcl (U.toks hd1.data.toList)) 5 = f := ⟨_, rfl⟩
  rw [hlf] at h1 h2
  refine ⟨lf, hlf, fun j hj => ?_, fun j hj => ?_, fun j hj => ?_⟩
  · rw [h1 ⟨j, hj⟩]; exact get5 0 0 1 1 0 j hj
  · rw [h2 ⟨j, hj⟩]; exact get5 0 1 3 2 4 j hj
  · rw [h1 ⟨j, hj⟩]
    show ([0, 0, 1, 1, 0] : List Nat).getD j 0 ≤ _
    have : ∀ j : Fin 5, ([0, 0, 1, 1, 0] : List Nat).getD j.1 0 ≤ 67108864 := by decide
    exact this ⟨j, hj⟩
end Go.Proofs.Ytclblidfamabdaa

/- head: the chapter's first examples. -/
set_option linter.unusedVariables false
set_option linter.unusedSimpArgs false
namespace Go.Proofs.Ytclblidfamabdaa
open Go.RowKit Go.Shelf Go.Lib Go.BigFrame
attribute [local go_sem] Oper.semAt_some

theorem rd_lit (W W' : World) (a b c d e : Int) (h : Below (W.heap.size + 1) (W.alloc (.cells #[.int .i64 a, .int .i64 b, .int .i64 c, .int .i64 d, .int .i64 e] 3)) W') : Rd W' (.slice (some ⟨W.heap.size, 0, none⟩) 5 5) (l5 a b c d e) 5 :=
  ⟨_, 5, rfl, Nat.le_refl _, fun _ => ⟨_, 0, rfl, fun j hj => by
    have hh : W'.heap[W.heap.size]? = some (.cells #[.int .i64 a, .int .i64 b, .int .i64 c, .int .i64 d, .int .i64 e] 3 (0, 0)) := (h.block _ (by omega)).trans (World.alloc_heap_new W _)
    rw [Nat.zero_add]
    simp only [World.cell?, hh]
    match j, hj with
    | 0, _ => rfl
    | 1, _ => rfl
    | 2, _ => rfl
    | 3, _ => rfl
    | 4, _ => rfl⟩⟩
set_option maxRecDepth 1000000 in
set_option maxHeartbeats 4000000 in
theorem head_any (w : World) : Calls Try.prog 16 #[] w fun e w' => e = .returned (.bool true) ∧ Below w.heap.size w w' := by
  have LV : Hid (∀ w, Calls Try.prog 18 #[.string hd1, .int .i64 0] w fun e w' => ∃ v, e = .returned (.tuple #[v, .int .i64 0]) ∧ Below w.heap.size w w' ∧ Rd w' v (fun j => ((B.lvAll 0 (B.kcl (U.toks hd1.data.toList)) 5 j : Nat) : Int)) 5) := Lib.hid (fun w => by
    refine (levels_at0 hd1 w (by decide) 5 hd1_n _ rfl).mono ?_
    rintro e w' ⟨v, h1, h2, h3⟩
    exact ⟨v, h1, h2, row_rd h3⟩)
  have VI : Hid (∀ w, Calls Try.prog 25 #[.string hd2, .int .i64 1] w fun e w' => e = .returned (.tuple #[.string hd2, .int .i64 0]) ∧ Below w.heap.size w w') := Lib.hid (fun w => by
    have := visual_any hd2 1 (.inr rfl) w (by decide)
    rw [hd2_vis] at this
    exact this)
  have BA : Hid (∀ w, Calls Try.prog 21 #[.string hd3, .int .i64 0] w fun e w' => e = .returned (.int .i64 1) ∧ Below w.heap.size w w') := Lib.hid (fun w => by
    have := base_any hd3 0 w (by decide) _ rfl _ rfl
    rw [hd3_base] at this
    exact this)
  obtain ⟨lf, hlf, hl5, ho5, hlb⟩ := hd1_lf
  rw [hlf] at LV
  -- the calls of the last statement
  have OR : Hid (∀ W v, Rd W v (fun j => (lf j : Int)) 5 → Calls Try.prog 23 #[v] W fun e w' => e = .returned (.slice (some ⟨W.heap.size, 0, none⟩) 5 5) ∧ Below W.heap.size W w' ∧ Rd w' (.slice (some ⟨W.heap.size, 0, none⟩) 5 5) (l5 0 1 3 2 4) 5) := Lib.hid (fun W v h => by
    refine (order_any 5 lf v W (by omega) hlb h).mono ?_
    rintro e w' ⟨rfl, h1, h2⟩
    exact ⟨rfl, h1, (h2.rd 5 (Nat.le_refl _)).congr ho5⟩)
  have SM : Hid (∀ W a b f, Rd W a f 5 → Rd W b f 5 → Calls Try.prog 20 #[a, b] W fun e w' => e = .returned (.bool true) ∧ Below W.heap.size W w') := Lib.hid (fun W a b f h1 h2 => by
    refine (same_any a b 5 5 f f W (by omega) (by omega) h1 h2).mono ?_
    rintro e w' ⟨⟨B, rfl, hB⟩, h3⟩
    obtain rfl : B = true := hB.2 ⟨rfl, fun _ _ => rfl⟩
    exact ⟨rfl, h3⟩)
  have HL5 := Lib.hid hl5
  clear hl5 ho5 hlb hlf
  have hs1 : (⟨#[97, 98, 215, 144, 215, 145, 99]⟩ : ByteArray) = hd1 := rfl
  have hs2 : (⟨#[40, 215, 144, 41]⟩ : ByteArray) = hd2 := rfl
  have hs3 : (⟨#[215, 144, 97]⟩ : ByteArray) = hd3 := rfl
  go_enter Try.func16, Try.ntmps16
  go_wp2_with (first
    | (go_at_call 18; (with_reducible refine (LV.out _).mono ?_); rintro e w1 ⟨v1, rfl, hb1, hr1⟩)
    | (go_at_call 25; (with_reducible refine (VI.out _).mono ?_); rintro e w2 ⟨rfl, hb2⟩)
    | (go_at_call 20; (with_reducible refine (SM.out _ _ _ (l5 0 0 1 1 0) ((hr1.below (hb2.alloc hb2.size _)).congr HL5.out) (rd_lit w2 _ 0 0 1 1 0 (Below.refl _ _))).mono ?_); rintro e w3 ⟨rfl, hb3⟩; have hb23 : Below w2.heap.size w2 w3 := bst ((Below.refl _ _).alloc (Nat.le_refl _) _) hb3)
    | (go_at_call 23; (with_reducible refine (OR.out _ _ (hr1.below (bst hb2 hb23))).mono ?_); rintro e w4 ⟨rfl, hb4, hr4⟩)
    | (go_at_call 20; (with_reducible refine (SM.out _ _ _ (l5 0 1 3 2 4) (hr4.below ((Below.refl _ _).alloc (Nat.le_refl _) _)) (rd_lit w4 _ 0 1 3 2 4 (Below.refl _ _))).mono ?_); rintro e w5 ⟨rfl, hb5⟩; have hb45 : Below w4.heap.size w4 w5 := bst ((Below.refl _ _).alloc (Nat.le_refl _) _) hb5)
    | (go_at_call 21; (with_reducible refine (BA.out _).mono ?_); rintro e w6 ⟨rfl, hb6⟩)
    | fail)
  go_ret
  exact ⟨rfl, bst (bst (bst (bst (bst hb1 hb2) hb23) hb4) hb45) hb6⟩
end Go.Proofs.Ytclblidfamabdaa
