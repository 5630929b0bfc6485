/- bidi.Base. -/
import Derived.Test.YtclblidfamabdaaBdU
set_option linter.unusedVariables false
set_option linter.unusedSimpArgs false
namespace Go.Proofs.Ytclblidfamabdaa
open Go.RowKit Go.Shelf Go.Lib Go.BigFrame
attribute [local go_sem] Oper.semAt_some

/-- The first strong class of the first paragraph's row; 0: there is none. -/
def B.fst (c : Nat → Nat) (n : Nat) : Nat := B.stg c (B.clo c (B.pfin c n 0)) 0 (B.pfin c n 0)
def bseI (c : Nat → Nat) (n : Nat) (ow : Int) : Int := if B.fst c n = 0 then ow else stI (B.fst c n)
theorem B.stg_chg {c cl ch : Nat → Nat} {n : Nat} (h : B.Clo c cl ch n) (a b : Nat) : B.stg ch cl a b = B.stg c cl a b := by
  unfold B.stg; exact B.stgF_nz ch c h.ch _ _ _
theorem B.stgF_congr {c d : Nat → Nat} (it : Nat → Nat) : ∀ f n, (∀ j, n ≤ j → j < n + f → c (it j) = d (it j)) → B.stgF c it f n = B.stgF d it f n := by
  intro f
  induction f with
  | zero => intro n _; rfl
  | succ f ih =>
    intro n h
    unfold B.stgF
    rw [h n (Nat.le_refl _) (by omega), ih (n + 1) (fun j h1 h2 => h j (by omega) (by omega))]

set_option maxRecDepth 1000000 in
set_option maxHeartbeats 4000000 in
theorem base_any (s : ByteArray) (ow : Int) (w : World) (hs : s.size ≤ 4194304) (n : Nat) (hn : (C.clus (U.toks s.data.toList)).length = n) (c : Nat → Nat) (hc : B.kcl (U.toks s.data.toList) = c) :
    Calls Try.prog 21 #[.string s, .int .i64 ow] w fun e w' => e = .returned (.int .i64 (bseI c n ow)) ∧ Below w.heap.size w w' := by
  have hlen : (C.clus (U.toks s.data.toList)).length ≤ s.size := Nat.le_trans (C.clus_length_le _) toks_len
  rw [hn] at hlen
  have CL := Lib.hid (fun w => classes_any s w hs)
  rw [hn, show kcI (U.toks s.data.toList) = fun j => (c j : Int) by rw [← hc]; rfl] at CL
  have PA := Lib.hid (fun v w (h : Rd w v (fun j => (c j : Int)) n) => paragraphs_any n c v w (by omega) h)
  have HCL := Lib.hid (fun j => hc ▸ B.kcl_le (U.toks s.data.toList) j : ∀ j, 1 ≤ c j ∧ c j ≤ 17)
  obtain ⟨R, hR⟩ : ∃ r, bseI c n ow = r := ⟨_, rfl⟩
  have HRI := Lib.hid hR
  rw [hR]
  clear hn hc hR
  go_enter Try.func21, Try.ntmps21
  go_upto_region 2 with (first
      | (go_at_call 32; (with_reducible refine (CL.out _).mono ?_); rintro e w1 ⟨v1, rfl, hb1, hr1⟩)
      | (go_at_call 31; (with_reducible refine (PA.out _ _ (row_rd hr1)).mono ?_); rintro e w2 ⟨v2, P, bg, L, rfl, hb2, hr2, hP⟩; obtain ⟨A2, C2, rfl, hC2, hA2⟩ := ownN_form hr2; obtain ⟨g2, rfl⟩ := hA2 hP.pos; obtain ⟨u, hu, hRu⟩ := hP.items 0 hP.pos; have hu0 := cells_at hr2 0 u hu; have hpp := hP.pos; have hPm := hP.le (P - 1) (0 + 1) (by omega); obtain ⟨m, hm⟩ : ∃ m, bg (0 + 1) - bg 0 = m := ⟨_, rfl⟩; rw [hm] at hRu; have hm4 : m ≤ 4194304 := (by omega); have hRu2 := Lib.hid hRu; have CLN := Lib.hid (clone_any u m _ w2 hm4 (hRu.below hb2)); obtain ⟨UA, uc, rfl, huc, hu1⟩ := hRu; have HM := Lib.hid (And.intro hm (And.intro hu hP)); clear hu1 hu hP)
      | (go_at_call 33; (with_reducible refine CLN.out.mono ?_); rintro e w3 ⟨v3, rfl, hb3, A3, c3, rfl, hc3, ho3, hn3⟩)
      | fail)
  obtain ⟨hm, hu, hP⟩ := HM.out
  have hz := hP.zero
  have hcap : m ≤ c3 := hc3
  obtain ⟨cN, hcN⟩ : ∃ f : Nat → Nat, (fun j => c (bg 0 + j)) = f := ⟨_, rfl⟩
  have hcN0 : cN = c := by rw [← hcN]; funext j; show c (bg 0 + j) = c j; rw [hz, Nat.zero_add]
  have hpf : B.pfin c n 0 = m := by have := hP.fin 0 hP.pos; rw [hz] at this; rw [this, ← hm, hz]; omega
  have hcc : (fun j => (c (bg 0 + j) : Int)) = fun j => (c j : Int) := by funext j; rw [hz, Nat.zero_add]
  rw [hcc] at hn3
  obtain ⟨g, hg⟩ : ∃ g, w2.heap.size ≤ g ∧ (0 < m → A3 = some ⟨g, 0, none⟩ ∧ Rw w3 g (fun j => (c j : Int)) m) := by
    rcases Nat.eq_zero_or_pos m with h | h
    · exact ⟨w2.heap.size, Nat.le_refl _, fun h' => absurd h' (by omega)⟩
    · obtain ⟨g, e, h1, h2⟩ := hn3 h
      exact ⟨g, h1, fun _ => ⟨e, h2⟩⟩
  have MT := Lib.hid (match_any A3 g m c3 c w3 hm4 hcap (fun h => hg.2 h))
  have HB := Lib.hid (And.intro (bst (bst hb1 hb2) hb3) (And.intro hg.1 (And.intro hpf (And.intro hg.2 (bst hb1 hb2).size))))
  have HB3 := Lib.hid hb3
  clear hm hu hP hz hcN hcN0 hpf hcc hn3 ho3 hc3 hg hb3
  go_upto_region 3 with (go_at_call 34; (with_reducible refine MT.out.mono ?_); rintro e w4 ⟨gc, rfl, hf4, hgc, hr4, hch4⟩)
  have hcl := B.clo_ok c m
  have hok := hcl.ok (fun j => (HCL.out j).2)
  have hcnt := B.cnt_le hok.up 0 m
  have hspec := B.cnt_spec hok.up 0 m
  have hclR : Rd w4 (.slice (some ⟨gc, 0, none⟩) m m) (clI (B.clo c m)) m := hr4.rd m (Nat.le_refl _)
  have hchR : Rd w4 (.slice A3 m c3) (fun j => (B.chg c m j : Int)) m := ⟨A3, c3, rfl, hcap, fun h => by
    obtain ⟨e1, _⟩ := HB.out.2.2.2.1 h
    exact ⟨g, 0, e1, fun j hj => by rw [Nat.zero_add]; exact ((hch4 h).at hj).1⟩⟩
  have RO : Hid (Calls Try.prog 43 #[.int .i64 0, .int .i64 (m : Int), .slice (some ⟨gc, 0, none⟩) m m] w4 _) := Lib.hid (row_any 0 m m _ (B.clo c m) w4 hm4 (Nat.le_refl _) (Nat.zero_le _) hok.up hok.le hclR)
  have SA := Lib.hid (fun (W' : World) (rv : Value) (h : Rd W' rv (itI (B.clo c m) 0) (B.cnt (B.clo c m) 0 m)) (h2 : Rd W' (.slice A3 m c3) (fun j => (B.chg c m j : Int)) m) => strong_any rv _ (B.itm (B.clo c m) 0) (B.chg c m) _ m W' (by omega) hm4 h h2 (fun j hj => by have := (hspec j).1 hj; omega))
  rw [show B.stgF (B.chg c m) (B.itm (B.clo c m) 0) (B.cnt (B.clo c m) 0 m) 0 = B.stg (B.chg c m) (B.clo c m) 0 m from rfl, B.stg_chg hcl] at SA
  have hsv : B.stg c (B.clo c m) 0 m = 0 ∨ B.stg c (B.clo c m) 0 m = 17 ∨ B.stg c (B.clo c m) 0 m = 15 ∨ B.stg c (B.clo c m) 0 m = 14 := stg_vals _ _ _ _
  have hbse : R = if B.stg c (B.clo c m) 0 m = 0 then ow else stI (B.stg c (B.clo c m) 0 m) := by rw [← HRI.out]; unfold bseI B.fst; rw [HB.out.2.2.1]
  have hB4 : Below w.heap.size w w4 := HB.out.1.trans (hf4.toBelow (fun k hk => by show k ≠ g; have := HB.out.2.1; have := HB.out.2.2.2.2; omega) (by have := HB.out.1.size; exact this))
  obtain ⟨X, hX⟩ : ∃ X, B.stg c (B.clo c m) 0 m = X := ⟨_, rfl⟩
  rw [hX] at SA hsv hbse
  obtain ⟨cnt, hcn⟩ : ∃ k, B.cnt (B.clo c m) 0 m = k := ⟨_, rfl⟩
  rw [hcn] at RO SA hcnt
  have HBS := Lib.hid hbse
  have HRR := Lib.hid (And.intro hB4 hchR)
  clear hX hbse hB4 hchR hclR hok hspec hcl hf4 hr4 hch4 hcn
  rcases hsv with rfl | rfl | rfl | rfl
  all_goals
    go_wp2_with (first
      | (go_at_call 43; (with_reducible refine RO.out.mono ?_); rintro e w5 ⟨v5, rfl, hb5, hr5⟩)
      | (go_at_call 42; (with_reducible refine (SA.out _ _ (row_rd hr5) (HRR.out.2.below hb5)).mono ?_); rintro e w6 ⟨rfl, rfl⟩)
      | fail)
    go_ret
    exact ⟨rC_int (by rw [HBS.out]; rfl), bst HRR.out.1 hb5⟩
end Go.Proofs.Ytclblidfamabdaa
