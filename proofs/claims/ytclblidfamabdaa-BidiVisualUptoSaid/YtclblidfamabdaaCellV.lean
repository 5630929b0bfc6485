/- The document's Clusters, Of. -/
import Derived.Test.YtclblidfamabdaaCellR
import Derived.Test.YtclblidfamabdaaCellAll
import Derived.Deep.RegionHeld3
set_option linter.unusedVariables false
set_option linter.unusedSimpArgs false
namespace Go.Proofs.Ytclblidfamabdaa
open Go.RowKit Go.Shelf Go.Lib Go.BigFrame
attribute [local go_sem] Oper.semAt_some

theorem own_form {w : World} {base : Nat} {e : TypeId} {sz n : Nat} {v : Value} {xs : List Value} (h : w.ownsRow base e sz v n xs) : ∃ A c, v = .slice A n c ∧ (0 < n → ∃ g, A = some ⟨g, 0, none⟩) := by
  rcases h.2 with ⟨rfl, rfl⟩ | ⟨g, cap, cur, rfl, _⟩
  · exact ⟨none, 0, rfl, fun h => absurd h (by omega)⟩
  · exact ⟨_, cap, rfl, fun _ => ⟨g, rfl⟩⟩
theorem row_cell {w : World} {base : Nat} {e : TypeId} {sz g n cap : Nat} {xs : List Value} (h : w.ownsRow base e sz (.slice (some ⟨g, 0, none⟩) n cap) n xs) (j : Nat) (u : Value) (hu : xs[j]? = some u) : w.cell? ⟨g, j, none⟩ = some u := by
  have := h.cells (g := g) rfl j u hu
  rwa [show (⟨g, 0, none⟩ : Addr).add j = ⟨g, j, none⟩ by unfold Addr.add; split <;> simp_all] at this
theorem flat5 {α : Type} (f : α → List Value) (hf : ∀ x, (f x).length = 5) (l : List α) (i k : Nat) (x : α) (hx : l[i]? = some x) (hk : k < 5) : (l.flatMap f)[i * 5 + k]? = (f x)[k]? := by
  induction l generalizing i with
  | nil => simp at hx
  | cons a l ih =>
    cases i with
    | zero =>
      simp at hx
      subst hx
      rw [List.flatMap_cons, List.getElem?_append_left (by rw [hf]; omega), Nat.zero_mul, Nat.zero_add]
    | succ i =>
      have := ih i (by simpa using hx)
      rw [List.flatMap_cons, List.getElem?_append_right (by rw [hf]; omega), hf, ← this]
      congr 1
      omega
theorem cellC_length (x : C.Cl) : (cellC x).length = 5 := rfl
/-- The five cells of cluster k. -/
theorem cellsC_at {w : World} {base : Nat} {e : TypeId} {g cap k n : Nat} {l : List C.Cl} {x : C.Cl} (h : w.ownsRow base e 5 (.slice (some ⟨g, 0, none⟩) n cap) n (cellsC l)) (hx : l[k]? = some x) :
    w.cell? ⟨g, k * 5, none⟩ = some (.int .i64 (x.at_ : Int)) ∧ w.cell? ⟨g, k * 5 + 1, none⟩ = some (.int .i64 (x.len : Int)) ∧ w.cell? ⟨g, k * 5 + 2, none⟩ = some (.int .i64 (x.frm : Int)) ∧ w.cell? ⟨g, k * 5 + 3, none⟩ = some (.int .i64 (x.to_ : Int)) ∧ w.cell? ⟨g, k * 5 + 4, none⟩ = some (.int .i64 (x.cells : Int)) :=
  ⟨row_cell h _ _ (flat5 cellC cellC_length l k 0 x hx (by omega)), row_cell h _ _ (flat5 cellC cellC_length l k 1 x hx (by omega)), row_cell h _ _ (flat5 cellC cellC_length l k 2 x hx (by omega)), row_cell h _ _ (flat5 cellC cellC_length l k 3 x hx (by omega)), row_cell h _ _ (flat5 cellC cellC_length l k 4 x hx (by omega))⟩
theorem Try.infoClR : (Try.prog.info? 86).map (fun i => (i.zero, i.size, i.bytes)) = some (some (.agg #[.int .i64 0, .int .i64 0, .int .i64 0, .int .i64 0, .int .i64 0]), 5, 40) := by kernel_rfl

set_option maxRecDepth 1000000 in
set_option maxHeartbeats 4000000 in
theorem clustersR_any (s : ByteArray) (w : World) (hs : s.size ≤ 4194304) :
    Calls Try.prog 51 #[.string s] w fun e w' => ∃ v, e = .returned v ∧ Below w.heap.size w w' ∧
      w'.ownsRow w.heap.size 86 5 v (C.clus (U.toks s.data.toList)).length (cellsC (C.clus (U.toks s.data.toList))) := by
  obtain ⟨i0, hi, hz0, hz1, hz2⟩ := info_parts Try.infoClR
  have hlw := U.wsum_toks s.data.toList
  rw [← U.size_eq] at hlw
  have hll := toks_len (s := s)
  have SG := fun w => signsR2_any s w hs
  obtain ⟨l, hl⟩ : ∃ l, U.toks s.data.toList = l := ⟨_, rfl⟩
  rw [hl] at hlw hll SG ⊢
  have SG := Lib.hid SG
  have hcl := C.clus_length_le l
  have hcov := C.cov_clus l
  clear hl
  go_enter Try.func51, Try.ntmps51
  go_wp2_with (go_at_call 75; ((with_reducible refine (SG.out _).mono ?_); rintro e w1 ⟨v1, v2, rfl, hb1, hr1, hr2⟩; obtain ⟨A1, cp1, rfl, hA1⟩ := own_form hr1; obtain ⟨A2, cp2, rfl, hA2⟩ := own_form hr2))
  have hs1 := hb1.size
  obtain ⟨g2, rfl⟩ := hA2 (by omega)
  have P2 : ∀ j, j ≤ l.length → w1.cell? ⟨g2, j, none⟩ = some (.int .i64 (C.pl l j : Int)) := fun j hj => row_cell hr2 j _ (by rw [plsV, List.getElem?_map, List.getElem?_range (by omega)]; rfl)
  have P1 : ∀ g1, A1 = some ⟨g1, 0, none⟩ → RunesC w1 g1 l := fun g1 e j hj => by
    subst e
    exact row_cell hr1 j _ (by simp [runesV, C.rune, List.getElem?_eq_getElem hj])
  go_loopw [5, 6] (fun o f wr => ∃ (frm : Nat) (pre r : List C.Cl), f = .int .i64 (frm : Int) ∧ frm ≤ l.length ∧ Hid (C.clus l = pre ++ r) ∧ Hid (C.Cov l frm r) ∧ pre.length ≤ frm ∧ Below w1.heap.size w1 wr ∧ wr.ownsRow w1.heap.size 86 5 o pre.length (cellsC pre)) (fun _ f _ => l.length - (RowKit.intOf f).toNat)
  case atStart => exact ⟨0, [], C.clus l, rfl, Nat.zero_le _, Lib.hid rfl, Lib.hid hcov, Nat.le_refl _, Below.refl _ _, World.ownsRow_nil _ _ _ _⟩
  case round =>
    obtain ⟨frm, pre, r, rfl, hfl, hcr, hcv, hpf, hB, hrow⟩ := hrel
    by_cases hlt : frm < l.length
    · obtain ⟨g1, rfl⟩ := hA1 (by omega)
      have P1' := P1 g1 rfl
      have hg2 : g2 < w1.heap.size := World.block_lt_of_cell? _ _ (P2 0 (Nat.zero_le _))
      have Q1 : RunesC wr g1 l := fun j hj => (World.cell?_of_block (hB.block _ (World.block_lt_of_cell? _ _ (P1' j hj)))).trans (P1' j hj)
      have Q2 : ∀ j, j ≤ l.length → wr.cell? ⟨g2, j, none⟩ = some (.int .i64 (C.pl l j : Int)) := fun j hj => (World.cell?_of_block (hB.block _ (World.block_lt_of_cell? _ _ (P2 j hj)))).trans (P2 j hj)
      have Q1 := Lib.hid Q1
      have Q2 := Lib.hid Q2
      clear P1 P2 P1' hr1 hr2 hA1 hA2
      go_wp2
      go_loopw [7] (fun t wr' => ∃ k : Nat, wr' = wr ∧ t = .int .i64 (k : Int) ∧ frm < k ∧ k ≤ l.length ∧ Hid (∀ j, frm < j → j < k → C.joins l frm j = true)) (fun t _ => l.length - (RowKit.intOf t).toNat)
      case atStart => exact ⟨frm + 1, rfl, by go_num, by omega, hlt, Lib.hid (fun j h1 h2 => by omega)⟩
      case round =>
        obtain ⟨k, rfl, rfl, hk1, hk2, hkj⟩ := hrel
        by_cases hkn : k < l.length
        · have J := joinsR_any g1 cp1 l frm k wr Q1.out hk1 hkn (by omega)
          obtain ⟨b, hb⟩ : ∃ b, C.joins l frm k = b := ⟨_, rfl⟩
          rw [hb] at J
          have J := Lib.hid J
          have HB := Lib.hid hb
          clear hb
          cases b
          · go_wp2_with (go_at_call 76; ((with_reducible refine J.out.mono ?_); rintro e w2 ⟨rfl, rfl⟩))
            have ca : wr.cell? ⟨g2, frm, none⟩ = some (.int .i64 (C.pl l frm : Int)) := Q2.out frm (by omega)
            have cb : wr.cell? ⟨g2, k, none⟩ = some (.int .i64 (C.pl l k : Int)) := Q2.out k (by omega)
            have CE := Lib.hid (cellsR_any g1 cp1 l frm k wr.drew Q1.out hk1 (by omega) (by omega))
            have hab := C.pl_mono l frm k (by omega)
            have hbs := C.pl_le l k
            rw [hlw] at hbs
            have hcc := C.cellsOf_le l frm k
            obtain ⟨a, ha⟩ : ∃ a, C.pl l frm = a := ⟨_, rfl⟩
            obtain ⟨b, hb⟩ : ∃ a, C.pl l k = a := ⟨_, rfl⟩
            obtain ⟨cc, hc⟩ : ∃ a, C.cellsOf l frm k = a := ⟨_, rfl⟩
            rw [ha] at ca hab
            rw [hb] at cb hab hbs
            rw [hc] at CE hcc
            have HABC := Lib.hid (And.intro ha (And.intro hb hc))
            clear ha hb hc
            have ka : ∀ o : Obj, (wr.drew.alloc o).cell? ⟨g2, frm, none⟩ = some (.int .i64 (a : Int)) := fun o => (World.cell?_of_block (Below.heap_alloc wr.drew o g2 (World.block_lt_of_cell? _ _ ca))).trans ca
            have kb : ∀ o : Obj, (wr.drew.alloc o).cell? ⟨g2, k, none⟩ = some (.int .i64 (b : Int)) := fun o => (World.cell?_of_block (Below.heap_alloc wr.drew o g2 (World.block_lt_of_cell? _ _ cb))).trans cb
            have hrd : wr.drew.ownsRow w1.heap.size 86 5 u5 pre.length (cellsC pre) := hrow
            have hBs := hB.size
            have hne : u5.ownBlock ≠ some g2 := fun e => by have := (hrow.lt _ e).1; omega
            have i1 : (0 : Int) ≤ (frm : Int) := by omega
            have i2 : (frm : Int) < (l.length : Int) + 1 := by omega
            have i3 : (0 : Int) ≤ (k : Int) := by omega
            have i4 : (k : Int) < (l.length : Int) + 1 := by omega
            have hone : ∀ u ∈ [Value.int .i64 (a : Int), .int .i64 (IntKind.i64.wrap ((b : Int) - (a : Int))), .int .i64 (frm : Int), .int .i64 (k : Int), .int .i64 (cc : Int)], u.oneCell' = true := by simp [Value.oneCell']
            go_region_held3 (fun w' => w'.cell? ⟨g2, frm, none⟩ = some (.int .i64 (a : Int)) ∧ w'.cell? ⟨g2, k, none⟩ = some (.int .i64 (b : Int))) (first | exact ⟨ca, cb⟩ | exact ⟨ka _, kb _⟩ | exact ⟨sa, sb⟩) (first
              | (go_at_call 77; refine CE.out.mono ?_; rintro e w' ⟨rfl, rfl⟩)
              | (refine step_append_lies _ rfl (.tmp 31) (.tmp 52) 84 rfl w1.heap.size 86 i0 _ 5 40 Try.underlying84 hi hz0 hz1 hz2 rfl (by decide) u5 pre.length (cellsC pre) rfl (hrd.alloc _) ⟨wr.heap.size, 0, none⟩ 1 1 [.int .i64 (a : Int), .int .i64 (IntKind.i64.wrap ((b : Int) - (a : Int))), .int .i64 (frm : Int), .int .i64 (k : Int), .int .i64 (cc : Int)] rfl rfl (World.news_of_block (World.alloc_heap_new wr.drew _)) hone (by omega) (by unfold maxLen; omega) (by omega) (by simp; omega) (wr.heap.size + 1) (by simp) ?_; intro gg cap w' hown hg hgg hlt'; have sa := hg.cell (a := ⟨g2, frm, none⟩) (ka _) (fun e => hne e.symm); have sb := hg.cell (a := ⟨g2, k, none⟩) (kb _) (fun e => hne e.symm)))
            have hwr : IntKind.i64.wrap ((b : Int) - (a : Int)) = (b : Int) - (a : Int) := IntWalk.i64_in _ (by omega)
            rw [hwr] at hown
            go_wp2
            go_roundw
            case rel =>
              obtain ⟨ha, hb, hc⟩ := HABC.out
              obtain ⟨r', hr', hcv'⟩ := C.Cov.head hcv.out hk1 hk2 hkj.out (fun _ => HB.out)
              refine ⟨_, pre ++ [C.clAt l frm k], r', rfl, by omega, Lib.hid (by rw [hcr.out, hr']; simp), Lib.hid hcv', by simp; omega, (hB.drew.alloc (by simp; omega) _).grown hg (by simp; omega) (fun q e => by have := (hrow.lt q e).1; omega), ?_⟩
              rw [List.length_append, cellsC_snoc]
              have hcc : cellC (C.clAt l frm k) = [Value.int .i64 (a : Int), .int .i64 ((b : Int) - (a : Int)), .int .i64 (frm : Int), .int .i64 (k : Int), .int .i64 (cc : Int)] := by
                simp only [cellC, C.clAt, ha, hb, hc, Int.ofNat_sub hab]
              rw [hcc]
              exact hown
            case measure => simp [RowKit.intOf]; omega
          · go_wp2_with (go_at_call 76; ((with_reducible refine J.out.mono ?_); rintro e w2 ⟨rfl, rfl⟩))
            go_roundw
            case rel => exact ⟨k + 1, by trivial, by go_num, by omega, hkn, Lib.hid (fun j h1 h2 => by
              by_cases e : j = k
              · subst e; exact HB.out
              · exact hkj.out j h1 (by omega))⟩
            case measure => simp [RowKit.intOf]; omega
        · obtain rfl : k = l.length := by omega
          go_wp2
          have ca : wr.cell? ⟨g2, frm, none⟩ = some (.int .i64 (C.pl l frm : Int)) := Q2.out frm (by omega)
          have cb : wr.cell? ⟨g2, l.length, none⟩ = some (.int .i64 (C.pl l l.length : Int)) := Q2.out l.length (by omega)
          have CE := Lib.hid (cellsR_any g1 cp1 l frm l.length wr.drew Q1.out hk1 (by omega) (by omega))
          have hab := C.pl_mono l frm l.length (by omega)
          have hbs := C.pl_le l l.length
          rw [hlw] at hbs
          have hcc := C.cellsOf_le l frm l.length
          obtain ⟨a, ha⟩ : ∃ a, C.pl l frm = a := ⟨_, rfl⟩
          obtain ⟨b, hb⟩ : ∃ a, C.pl l l.length = a := ⟨_, rfl⟩
          obtain ⟨cc, hc⟩ : ∃ a, C.cellsOf l frm l.length = a := ⟨_, rfl⟩
          rw [ha] at ca hab
          rw [hb] at cb hab hbs
          rw [hc] at CE hcc
          have HABC := Lib.hid (And.intro ha (And.intro hb hc))
          clear ha hb hc
          have ka : ∀ o : Obj, (wr.drew.alloc o).cell? ⟨g2, frm, none⟩ = some (.int .i64 (a : Int)) := fun o => (World.cell?_of_block (Below.heap_alloc wr.drew o g2 (World.block_lt_of_cell? _ _ ca))).trans ca
          have kb : ∀ o : Obj, (wr.drew.alloc o).cell? ⟨g2, l.length, none⟩ = some (.int .i64 (b : Int)) := fun o => (World.cell?_of_block (Below.heap_alloc wr.drew o g2 (World.block_lt_of_cell? _ _ cb))).trans cb
          have hrd : wr.drew.ownsRow w1.heap.size 86 5 u5 pre.length (cellsC pre) := hrow
          have hBs := hB.size
          have hne : u5.ownBlock ≠ some g2 := fun e => by have := (hrow.lt _ e).1; omega
          have i1 : (0 : Int) ≤ (frm : Int) := by omega
          have i2 : (frm : Int) < (l.length : Int) + 1 := by omega
          have i3 : (0 : Int) ≤ (l.length : Int) := by omega
          have i4 : (l.length : Int) < (l.length : Int) + 1 := by omega
          have hone : ∀ u ∈ [Value.int .i64 (a : Int), .int .i64 (IntKind.i64.wrap ((b : Int) - (a : Int))), .int .i64 (frm : Int), .int .i64 (l.length : Int), .int .i64 (cc : Int)], u.oneCell' = true := by simp [Value.oneCell']
          go_region_held3 (fun w' => w'.cell? ⟨g2, frm, none⟩ = some (.int .i64 (a : Int)) ∧ w'.cell? ⟨g2, l.length, none⟩ = some (.int .i64 (b : Int))) (first | exact ⟨ca, cb⟩ | exact ⟨ka _, kb _⟩ | exact ⟨sa, sb⟩) (first
            | (go_at_call 77; refine CE.out.mono ?_; rintro e w' ⟨rfl, rfl⟩)
            | (refine step_append_lies _ rfl (.tmp 31) (.tmp 52) 84 rfl w1.heap.size 86 i0 _ 5 40 Try.underlying84 hi hz0 hz1 hz2 rfl (by decide) u5 pre.length (cellsC pre) rfl (hrd.alloc _) ⟨wr.heap.size, 0, none⟩ 1 1 [.int .i64 (a : Int), .int .i64 (IntKind.i64.wrap ((b : Int) - (a : Int))), .int .i64 (frm : Int), .int .i64 (l.length : Int), .int .i64 (cc : Int)] rfl rfl (World.news_of_block (World.alloc_heap_new wr.drew _)) hone (by omega) (by unfold maxLen; omega) (by omega) (by simp; omega) (wr.heap.size + 1) (by simp) ?_; intro gg cap w' hown hg hgg hlt'; have sa := hg.cell (a := ⟨g2, frm, none⟩) (ka _) (fun e => hne e.symm); have sb := hg.cell (a := ⟨g2, l.length, none⟩) (kb _) (fun e => hne e.symm)))
          have hwr : IntKind.i64.wrap ((b : Int) - (a : Int)) = (b : Int) - (a : Int) := IntWalk.i64_in _ (by omega)
          rw [hwr] at hown
          go_wp2
          go_roundw
          case rel =>
            obtain ⟨ha, hb, hc⟩ := HABC.out
            obtain ⟨r', hr', hcv'⟩ := C.Cov.head hcv.out hk1 hk2 hkj.out (fun h => absurd h (Nat.lt_irrefl _))
            refine ⟨_, pre ++ [C.clAt l frm l.length], r', rfl, by omega, Lib.hid (by rw [hcr.out, hr']; simp), Lib.hid hcv', by simp; omega, (hB.drew.alloc (by simp; omega) _).grown hg (by simp; omega) (fun q e => by have := (hrow.lt q e).1; omega), ?_⟩
            rw [List.length_append, cellsC_snoc]
            have hcc : cellC (C.clAt l frm l.length) = [Value.int .i64 (a : Int), .int .i64 ((b : Int) - (a : Int)), .int .i64 (frm : Int), .int .i64 (l.length : Int), .int .i64 (cc : Int)] := by
              simp only [cellC, C.clAt, ha, hb, hc, Int.ofNat_sub hab]
            rw [hcc]
            exact hown
          case measure => simp [RowKit.intOf]; omega
    · obtain rfl : frm = l.length := by omega
      have hr0 : r = [] := by
        have := hcv.out.length_le
        exact List.length_eq_zero_iff.1 (by omega)
      subst hr0
      have hcr2 := hcr.out
      rw [List.append_nil] at hcr2
      go_wp2
      go_ret
      exact ⟨_, rfl, hb1.trans (hB.mono hs1), by rw [hcr2]; exact ownsRow_base hrow hs1⟩
end Go.Proofs.Ytclblidfamabdaa
