/- The law of the texts. -/
import Derived.Test.YtokbmihjpllgpaaLawRound
set_option linter.unusedVariables false
namespace Go.Proofs.Ytokbmihjpllgpaa
open Go.RowKit Go.Shelf Go.Lib Go.BigFrame
attribute [local go_sem] Oper.semAt_some

set_option maxRecDepth 1000000 in
theorem intsA_any (v : Value) (l : List Int) (w : World) (hl : l.length ≤ 4194304) (hr : ∀ x ∈ l, -2147483648 ≤ x ∧ x ≤ 2147483647) (hv : ArgR w v l) :
    Calls Try.prog 35 #[v] w fun e w' => ∃ v, e = .returned v ∧ Below w.heap.size w w' ∧ w'.ownsRow w.heap.size 3 1 v l.length (nums l) := by
  obtain ⟨i0, hi, hz0, hz1, hz2⟩ := info_parts Try.infoInt
  obtain ⟨A, cap, rfl, hA⟩ := hv.form
  clear hv
  go_enter Try.func35, Try.ntmps35
  go_wp2
  go_loopw [3, 4] (fun o i wr => ∃ k : Nat, i = .int .i64 (k : Int) ∧ k ≤ l.length ∧ Below w.heap.size w wr ∧ wr.ownsRow w.heap.size 3 1 o k (nums (l.take k))) (fun _ i _ => l.length - (intOf i).toNat)
  case atStart => exact ⟨0, rfl, Nat.zero_le _, Below.refl _ _, World.ownsRow_nil _ _ _ _⟩
  case round =>
    obtain ⟨k, rfl, hk, hB, hrow⟩ := hrel
    by_cases hlt : k < l.length
    · obtain ⟨b, off, rfl, hc⟩ := hA (by omega)
      obtain ⟨x, hx⟩ : ∃ s, l[k]? = some s := ⟨_, List.getElem?_eq_getElem hlt⟩
      have c0 : wr.cell? ⟨b, off + k, none⟩ = some (.int .i32 x) := (World.cell?_of_block (hB.block b (World.block_lt_of_cell? _ _ (hc k x hx)))).trans (hc k x hx)
      have hxr := hr x (List.mem_of_getElem? hx)
      have HT := Lib.hid (show l.take (k + 1) = l.take k ++ [x] by rw [List.take_add_one, hx]; rfl)
      have HW := (show IntKind.i64.wrap x = x from IntWalk.i64_in _ (by omega))
      have hBs := hB.size
      clear hx hc hr hA
      go_wp2_with (at_builtin; go_must (refine wpList_append_own _ rfl _ _ 44 rfl w.heap.size 3 i0 _ 1 8 Try.underlying44 hi hz0 hz1 hz2 rfl (by decide) _ _ _ rfl (hrow.alloc _) ⟨wr.heap.size, 0, none⟩ 1 1 [.int .i64 x] rfl rfl (World.news_of_block (World.alloc_heap_new wr _)) (by simp [Value.oneCell']) (by unfold maxLen; omega) (by omega) (by simp; omega) ?_); intro v' w2 hown hg _)
      go_roundw
      case rel =>
        refine ⟨k + 1, by go_num, hlt, (hB.alloc hB.size _).grown hg (by simp; omega) (fun q e => by have := (hrow.lt q e).1; omega), ?_⟩
        rw [HT.out, nums_snoc]
        exact hown
      case measure => simp [intOf]; omega
    · obtain rfl : k = l.length := by omega
      rw [List.take_length] at hrow
      go_wp2
      go_ret
      exact ⟨_, rfl, hB, hrow⟩


def runeV (l : List Int) : List Value := l.map (Value.int .i32)
theorem Try.infoI32 : (Try.prog.info? 21).map (fun i => (i.zero, i.size, i.bytes)) = some (some (.int .i32 0), 1, 4) := by kernel_rfl

set_option maxRecDepth 1000000 in
set_option maxHeartbeats 2000000 in
theorem utfTexts_law (v : Value) (l : List Int) (w : World) (hl : l.length ≤ 1048576) (hr : ∀ x ∈ l, -2147483648 ≤ x ∧ x ≤ 2147483647) (hv : ArgR w v l) :
    Calls Try.prog 7 #[v] w fun e w' => e = .returned (.bool true) ∧ Below w.heap.size w w' := by
  obtain ⟨i0, hi, hz0, hz1, hz2⟩ := info_parts Try.infoI32
  have hbe : ∀ W, Below w.heap.size w W → ArgR W v l := fun W hB => by
    rcases hv with h | ⟨a, cap, h, hc⟩
    · exact .inl h
    · exact .inr ⟨a, cap, h, fun j x hx => (World.cell?_of_block (hB.block _ (World.block_lt_of_cell? _ _ (hc j x hx)))).trans (hc j x hx)⟩
  have TM := Lib.hid (fun W g cap (h : ∀ (j : Nat) (x : Int), l[j]? = some x → W.cell? ⟨g, j, none⟩ = some (.int .i32 x)) =>
    textA_utf l W (.slice (some ⟨g, 0, none⟩) l.length cap) (.inr ⟨_, cap, rfl, fun j x hx => by rw [Go.WideShapes.add_plain, Nat.zero_add]; exact h j x hx⟩))
  have IN := Lib.hid (fun W hB => intsA_any v l W (by omega) hr (hbe W hB))
  have TR := Lib.hid (fun v' b W h => textR_any v' l b W (by omega) h)
  have hcell : ∀ A cap, v = .slice A l.length cap → (A = none → l.length = 0 ∧ cap = 0) ∧ ∀ ad, A = some ad → ∀ (j : Nat) (u : Value), (runeV l)[j]? = some u → w.cell? (ad.add j) = some u := fun A cap e => by
    rcases hv with ⟨h, h'⟩ | ⟨a, cap', h, hc⟩
    · rw [e] at h
      injection h with h1 h2 h3
      subst h1 h3
      refine ⟨fun _ => ⟨?_, rfl⟩, fun ad h => ?_⟩
      · rw [h']; rfl
      · cases h
    · rw [e] at h
      injection h with h1 h2 h3
      subst h1 h3
      refine ⟨(fun h => by cases h), fun ad h j u hu => ?_⟩
      cases h
      unfold runeV at hu
      rw [List.getElem?_map] at hu
      obtain ⟨x, hx, rfl⟩ := Option.map_eq_some_iff.1 hu
      exact hc j x hx
  obtain ⟨A, cp, hve, hA⟩ := hv.form
  obtain ⟨hn0, hc0⟩ := hcell A cp hve
  subst hve
  have HC := Lib.hid hc0
  have HN := Lib.hid hn0
  obtain ⟨T, hT⟩ : ∃ T, (⟨(textB l).toArray⟩ : ByteArray) = T := ⟨_, rfl⟩
  rw [hT] at TM TR
  have hone : ∀ u ∈ runeV l, u.oneCell' = true := by intro u hu; simp [runeV] at hu; obtain ⟨_, _, rfl⟩ := hu; rfl
  have hrl : (runeV l).length = l.length := by simp [runeV]
  clear hv hbe hcell hc0 hn0 hT
  go_enter Try.func7, Try.ntmps7
  go_wp2_with (first
    | (at_make; go_must (refine wpList_make_own _ rfl _ _ 41 rfl w.heap.size 21 i0 _ 1 Try.underlying41 hi hz0 hz1 _ _ _ (l.length + 3) rfl rfl (by omega) (by rw [hz2]; omega) (by unfold maxLen; omega) (Nat.le_refl _) ?_); intro w1 ho1 hg1)
    | (at_builtin; refine wpList_append_fits_any _ rfl _ _ 41 rfl w.heap.size 21 i0 1 Try.underlying41 hi hz1 w.heap.size 0 (l.length + 3) [] rfl ho1 A l.length cp (runeV l) rfl (by rw [hrl, Nat.mul_one]) HN.out (fun ad ha j u hu => hg1.cell (HC.out ad ha j u hu) (fun e => by cases e)) hone (by omega) ?_; intro w2 ho2 hg2; rw [Nat.zero_add, List.nil_append] at ho2)
    | (at_builtin; go_must (refine wpList_append_fits _ rfl _ _ 41 rfl w.heap.size 21 i0 1 Try.underlying41 hi hz1 w.heap.size l.length (l.length + 3) (runeV l) rfl (ho2.alloc _) ⟨w2.heap.size, 0, none⟩ 1 1 [.int .i32 (-77)] rfl rfl (World.news_of_block (World.alloc_heap_new w2 _)) (by simp [Value.oneCell']) (by omega) ?_); intro w3 ho3 hg3;
        have hB1 : Below w.heap.size w w1 := (Below.refl w.heap.size w).grown hg1 (Nat.le_refl _) (fun q e => by cases e);
        have hB2 : Below w.heap.size w w2 := hB1.grown hg2 hB1.size (fun q e => by cases e; exact Nat.le_refl _);
        have hB3 : Below w.heap.size w w3 := (hB2.alloc hB2.size _).grown hg3 (by have := hB2.size; simp; omega) (fun q e => by cases e; exact Nat.le_refl _);
        have hm3 : ∀ (j : Nat) (x : Int), l[j]? = some x → w3.cell? ⟨w.heap.size, j, none⟩ = some (.int .i32 x) := fun j x hx => row_cell ho3 j _ (by rw [List.getElem?_append_left (by rw [hrl]; exact (List.getElem?_eq_some_iff.1 hx).1)]; simp [runeV, hx]);
        have hk3 : ∀ W, Below w3.heap.size w3 W → W.cell? ⟨w.heap.size, l.length, none⟩ = some (.int .i32 (-77)) := fun W hW => row_cell (own_below ho3 hW) l.length _ (by rw [List.getElem?_append_right (by omega), hrl, Nat.sub_self]; rfl))
    | (go_at_call 33; (with_reducible refine (TM.out _ _ _ hm3).mono ?_); rintro e w4 ⟨rfl, hb4⟩; have k4 := hk3 _ hb4))
  have hB4 : Below w.heap.size w w4 := bst hB3 hb4
  go_loopw [5, 6] (fun ok i wr => ∃ k m' : Nat, i = .int .i64 (k : Int) ∧ ok = .bool true ∧ k ≤ l.length ∧ wr = w4.drewN m') (fun _ i _ => l.length - (intOf i).toNat)
  case atStart => exact ⟨0, 0, rfl, rfl, Nat.zero_le _, rfl⟩
  case round =>
    obtain ⟨k, m', rfl, rfl, hk, rfl⟩ := hrel
    by_cases hlt : k < l.length
    · obtain ⟨b, off, rfl, hc⟩ := hA (by omega)
      obtain ⟨x, hx⟩ : ∃ s, l[k]? = some s := ⟨_, List.getElem?_eq_getElem hlt⟩
      have c0 : w4.cell? ⟨b, off + k, none⟩ = some (.int .i32 x) := (World.cell?_of_block (hB4.block b (World.block_lt_of_cell? _ _ (hc k x hx)))).trans (hc k x hx)
      have d0 : w4.cell? ⟨w.heap.size, k, none⟩ = some (.int .i32 x) := (World.cell?_of_block (hb4.block _ (World.block_lt_of_cell? _ _ (hm3 k x hx)))).trans (hm3 k x hx)
      clear hx hc hA HC HN IN TR TM hm3 hk3 ho1 ho2 ho3 hg1 hg2 hg3
      go_wp2
      go_quiet (fail)
      go_wp2
      go_roundw
      case rel => exact ⟨k + 1, m' + nq, by go_num, rfl, hlt, rfl⟩
      case measure => simp [intOf]; omega
    · obtain rfl : k = l.length := by omega
      have hB5 : Below w.heap.size w (w4.drewN m') := below_dn hB4 _
      clear HC HN TM hm3 hk3 ho1 ho2 ho3 hg1 hg2 hg3 hA
      go_wp2_with (first
        | (go_at_call 19; refine (head_any _).mono ?_; rintro e w13 ⟨rfl, hb13⟩)
        | (go_at_call 35; (with_reducible refine (IN.out _ hB5).mono ?_); rintro e w6 ⟨v6, rfl, hb6, hr6⟩)
        | (go_at_call 34; (with_reducible refine (TR.out _ _ _ hr6).mono ?_); rintro e w7 ⟨rfl, hb7⟩))
      go_ret
      exact ⟨rfl, bst (bst (bst hB5 hb6) hb7) hb13⟩
end Go.Proofs.Ytokbmihjpllgpaa
