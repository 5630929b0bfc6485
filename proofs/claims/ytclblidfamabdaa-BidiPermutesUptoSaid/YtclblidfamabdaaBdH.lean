/- bidi.paragraphs: the walk. -/
import Derived.Test.YtclblidfamabdaaBdG
set_option linter.unusedVariables false
set_option linter.unusedSimpArgs false
namespace Go.Proofs.Ytclblidfamabdaa
open Go.RowKit Go.Shelf Go.Lib Go.BigFrame
attribute [local go_sem] Oper.semAt_some

theorem Rd.tail {w : World} {A : Addr} {n cap q : Nat} {c : Nat → Nat} (h : Rd w (.slice (some A) n cap) (fun j => (c j : Int)) n) (hq : q ≤ n) : Rd w (.slice (some (A.add q)) (n - q) (cap - q)) (fun j => (c (q + j) : Int)) (n - q) := by
  obtain ⟨_, _, e, hcap, hc⟩ := h
  cases e
  refine ⟨_, _, rfl, by omega, fun hn => ?_⟩
  obtain ⟨g, o, e, h1⟩ := hc (by omega)
  cases e
  refine ⟨g, o + q, by rw [Go.WideShapes.add_plain], fun j hj => ?_⟩
  rw [Nat.add_assoc]
  exact h1 (q + j) (by omega)

set_option maxRecDepth 1000000 in
set_option maxHeartbeats 4000000 in
theorem paragraphs_any (n : Nat) (c : Nat → Nat) (v : Value) (w : World) (hn : n ≤ 4194304) (hR : Rd w v (fun j => (c j : Int)) n) :
    Calls Try.prog 31 #[v] w fun e w' => ∃ v' P bg L, e = .returned v' ∧ Below w.heap.size w w' ∧ w'.ownsRow w.heap.size 29 1 v' P L ∧ Pars w c n P bg L := by
  obtain ⟨i0, hi, hz0, hz1, hz2⟩ := info_parts Try.infoSI
  obtain ⟨A, cap, rfl, hcap, hc⟩ := hR
  have HC := Lib.hid hc
  clear hc
  go_enter Try.func31, Try.ntmps31
  go_wp2
  go_loopw [3, 4, 9] (fun ov av iv wr => ∃ (i m : Nat) (bg : Nat → Nat) (L : List Value), iv = .int .i64 (i : Int) ∧ i ≤ n ∧ av = .int .i64 (bg m : Int) ∧ Below w.heap.size w wr ∧ wr.ownsRow w.heap.size 29 1 ov m L ∧ Prs w c i m bg L) (fun _ _ iv _ => n - (intOf iv).toNat)
  case atStart => exact ⟨0, 0, fun _ => 0, [], rfl, Nat.zero_le _, rfl, Below.refl _ _, World.ownsRow_nil _ _ _ _, Prs.start _ _⟩
  case round =>
    obtain ⟨i, m, bg, L, rfl, hin, rfl, hB, hrow, hP⟩ := hrel
    have hBs := hB.size
    by_cases hlt : i < n
    · obtain ⟨g, o, rfl, hcc⟩ := HC.out (by omega)
      have c0' := hcc i hlt
      have c0 : wr.cell? ⟨g, o + i, none⟩ = some (.int .i64 (c i : Int)) := (World.cell?_of_block (hB.block _ (World.block_lt_of_cell? _ _ c0'))).trans c0'
      clear c0'
      obtain ⟨x, hx⟩ : ∃ x, c i = x := ⟨_, rfl⟩
      rw [hx] at c0
      by_cases h1 : x = 1
      · have hml := hP.m_le m (Nat.le_refl _)
        have hbl := hP.le
        obtain ⟨bg', hb1, hb2⟩ := hP.part (hx.trans h1) (.slice (some ⟨g, o + bg m, none⟩) (i + 1 - bg m) (i + 1 - bg m)) ⟨_, _, rfl, Nat.le_refl _, fun _ => ⟨g, o + bg m, rfl, fun j hj => by rw [Nat.add_assoc]; exact hcc (bg m + j) (by omega)⟩⟩
        subst h1
        have HX := Lib.hid (And.intro hB (And.intro hb1 hb2))
        have HW := Lib.hid (And.intro hrow hP)
        obtain ⟨q, hq⟩ : ∃ q, bg m = q := ⟨_, rfl⟩
        rw [hq] at hml hbl HX ⊢
        have KB : Hid (∀ w2 o, (wr.alloc o).grownBy w2 u3.ownBlock → Below w.heap.size w w2) := Lib.hid (fun w2 o hg => (HX.out.1.alloc HX.out.1.size _).grown hg (by have := HX.out.1.size; simp; omega) (fun q e => (HW.out.1.lt q e).1))
        clear hB hb1 hb2 hrow hP hcc hx hq HC
        go_wp2_with (at_builtin; go_must (refine wpList_append_own_at _ rfl _ _ 50 rfl w.heap.size 29 i0 _ 1 24 Try.underlying50 hi hz0 hz1 hz2 rfl (by decide) _ _ _ rfl (HW.out.1.alloc _) ⟨wr.heap.size, 0, none⟩ 1 1 [.slice (some ⟨g, o + q, none⟩) (i + 1 - q) (i + 1 - q)] rfl rfl (World.news_of_block (World.alloc_heap_new wr _)) (by simp [Value.oneCell']) (by unfold maxLen; omega) (by omega) (by simp; omega) ?_); intro v' w2 hown hg _ _)
        go_roundw
        case rel => exact ⟨i + 1, m + 1, bg', _, by go_num, hlt, by rw [HX.out.2.1]; go_num, KB.out w2 _ hg, hown, HX.out.2.2⟩
        case measure => simp [intOf]; omega
      · have b1 : ((x : Int) == 1) = false := by simp; omega
        have HX := Lib.hid (And.intro hB (And.intro hrow (hP.skip (by rw [hx]; exact h1))))
        clear hB hrow hP hcc hx HC
        go_wp2
        go_roundw
        case rel => exact ⟨i + 1, m, bg, L, by go_num, hlt, rfl, HX.out⟩
        case measure => simp [intOf]; omega
    · obtain rfl : n = i := by omega
      have hbl := hP.le
      have HX := Lib.hid (And.intro hB (And.intro hrow hP))
      have hml := hP.m_le m (Nat.le_refl _)
      have KB : Hid (∀ w2 o, (wr.alloc o).grownBy w2 u3.ownBlock → Below w.heap.size w w2) := Lib.hid (fun w2 o hg => (HX.out.1.alloc HX.out.1.size _).grown hg (by have := HX.out.1.size; simp; omega) (fun q e => (HX.out.2.1.lt q e).1))
      obtain ⟨q, hq⟩ : ∃ q, bg m = q := ⟨_, rfl⟩
      have HQ := Lib.hid hq
      rw [hq] at hbl hml ⊢
      clear hB hrow hP hq
      rcases A with _ | A
      · have h0 : n = 0 := by
          rcases Nat.eq_zero_or_pos n with h | h
          · exact h
          · obtain ⟨g, o, h, _⟩ := HC.out h; cases h
        subst h0
        obtain rfl : q = 0 := by omega
        go_wp2_with (at_builtin; go_must (refine wpList_append_own_at _ rfl _ _ 50 rfl w.heap.size 29 i0 _ 1 24 Try.underlying50 hi hz0 hz1 hz2 rfl (by decide) _ _ _ rfl (HX.out.2.1.alloc _) ⟨wr.heap.size, 0, none⟩ 1 1 [.slice none 0 cap] rfl rfl (World.news_of_block (World.alloc_heap_new wr _)) (by simp [Value.oneCell']) (by unfold maxLen; omega) (by omega) (by simp; omega) ?_); intro v' w2 hown hg _ _)
        go_ret
        obtain ⟨bg', hb⟩ := HX.out.2.2.end (.slice none 0 cap) ⟨_, _, by rw [HQ.out], by omega, fun h => absurd h (by omega)⟩
        exact ⟨_, _, bg', _, rfl, KB.out w2 _ hg, hown, hb⟩
      · have HT := (Rd.tail (q := q) ⟨_, _, rfl, hcap, HC.out⟩ hbl : Rd w (.slice (some (A.add q)) (n - q) (cap - q)) (fun j => (c (q + j) : Int)) (n - q))
        have HT2 := Lib.hid HT
        clear HT HC
        by_cases hqc : q = cap
        · subst hqc
          obtain rfl : n = q := by omega
          go_wp2_with (at_builtin; go_must (refine wpList_append_own_at _ rfl _ _ 50 rfl w.heap.size 29 i0 _ 1 24 Try.underlying50 hi hz0 hz1 hz2 rfl (by decide) _ _ _ rfl (HX.out.2.1.alloc _) ⟨wr.heap.size, 0, none⟩ 1 1 [_] rfl rfl (World.news_of_block (World.alloc_heap_new wr _)) (by simp [Value.oneCell']) (by unfold maxLen; omega) (by omega) (by simp; omega) ?_); intro v' w2 hown hg _ _)
          go_ret
          obtain ⟨bg', hb⟩ := HX.out.2.2.end (.slice (some A) 0 0) ⟨_, _, by rw [HQ.out, Nat.sub_self], Nat.le_refl _, fun h => absurd h (by rw [HQ.out]; omega)⟩
          exact ⟨_, _, bg', _, rfl, KB.out w2 _ hg, by simpa using hown, hb⟩
        · have hqc' : q < cap := by omega
          go_wp2_with (at_builtin; go_must (refine wpList_append_own_at _ rfl _ _ 50 rfl w.heap.size 29 i0 _ 1 24 Try.underlying50 hi hz0 hz1 hz2 rfl (by decide) _ _ _ rfl (HX.out.2.1.alloc _) ⟨wr.heap.size, 0, none⟩ 1 1 [.slice (some (A.add q)) (n - q) (cap - q)] rfl rfl (World.news_of_block (World.alloc_heap_new wr _)) (by simp [Value.oneCell']) (by unfold maxLen; omega) (by omega) (by simp; omega) ?_); intro v' w2 hown hg _ _)
          go_ret
          obtain ⟨bg', hb⟩ := HX.out.2.2.end _ (by rw [HQ.out]; exact HT2.out)
          exact ⟨_, _, bg', _, rfl, KB.out w2 _ hg, hown, hb⟩
end Go.Proofs.Ytclblidfamabdaa
