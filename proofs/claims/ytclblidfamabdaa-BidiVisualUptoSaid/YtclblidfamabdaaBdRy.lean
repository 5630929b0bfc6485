/- The document's Visual. -/
import Derived.Test.YtclblidfamabdaaBdTx
import Derived.Test.YtclblidfamabdaaG18
import Derived.Test.YtclblidfamabdaaG15
import Derived.Test.YtclblidfamabdaaG9
import Derived.Deep.RegionHeld3
import Derived.Deep.DeepCutAuto
set_option linter.unusedVariables false
set_option linter.unusedSimpArgs false
namespace Go.Proofs.Ytclblidfamabdaa
open Go.RowKit Go.Shelf Go.Lib Go.BigFrame
attribute [local go_sem] Oper.semAt_some

/-- A row of one's own lies in no block of another kind. -/
theorem own_other {w : World} {base : Nat} {e t : TypeId} {sz n : Nat} {v : Value} {xs : List Value} {c : Array Value} {fr : Nat × Nat} {b : Nat} (h : w.ownsRow base e sz v n xs) (hb : w.heap[b]? = some (.cells c t fr)) (ht : t ≠ e) : v.ownBlock ≠ some b := by
  rcases h.2 with ⟨rfl, _⟩ | ⟨g, cap, cur, rfl, _, hg, _⟩
  · simp [Value.ownBlock]
  · intro e1
    obtain rfl : g = b := Option.some.inj e1
    rw [hg] at hb
    cases hb
    exact ht rfl
/-- A cluster in a box. -/
def BxR (W : World) (b : Nat) (x : C.Cl) : Prop := W.heap[b]? = some (.cells #[.int .i64 (x.at_ : Int), .int .i64 (x.len : Int), .int .i64 (x.frm : Int), .int .i64 (x.to_ : Int), .int .i64 (x.cells : Int)] 86 (0, 0))

set_option maxRecDepth 1000000 in
set_option maxHeartbeats 8000000 in
theorem visualR_any (s : ByteArray) (base : Nat) (hbase : base = 0 ∨ base = 1) (w : World) (hs : s.size ≤ 4194304) :
    Calls Try.prog 26 #[.string s, .int .i64 (base : Int)] w fun e w' => e = .returned (.tuple #[.string (visV s base).1, .int .i64 ((visV s base).2 : Int)]) ∧ Below w.heap.size w w' := by
  obtain ⟨i0, hi, hz0, hz1, hz2⟩ := info_parts Try.infoIn
  obtain ⟨R1, R2, hR⟩ : ∃ R1 R2, visV s base = (R1, R2) := ⟨_, _, rfl⟩
  rw [hR]
  have hlen : (C.clus (U.toks s.data.toList)).length ≤ s.size := Nat.le_trans (C.clus_length_le _) toks_len
  obtain ⟨n, hn⟩ : ∃ n, (C.clus (U.toks s.data.toList)).length = n := ⟨_, rfl⟩
  obtain ⟨c, hc⟩ : ∃ c, B.kcl (U.toks s.data.toList) = c := ⟨_, rfl⟩
  have LV := Lib.hid (fun w => levelsR_any s base hbase w hs n hn c hc)
  have RU := Lib.hid (fun w => runesR_any s w hs)
  have CU := Lib.hid (fun w => clustersR_any s w hs)
  have HV : Hid (∀ R1 R2, visV s base = (R1, R2) → (B.line (U.toks s.data.toList) = false → R1 = ⟨#[]⟩ ∧ R2 = 24) ∧ (B.line (U.toks s.data.toList) = true → R1 = ⟨(textB (B.visR (U.toks s.data.toList) (B.lvAll base c n) n n)).toArray⟩ ∧ R2 = 0)) := Lib.hid (fun R1 R2 h => by
    unfold visV at h
    simp only [hn, hc] at h
    constructor
    · intro hl; rw [hl] at h; simp at h; exact ⟨h.1.symm, h.2.symm⟩
    · intro hl; rw [hl] at h; simp at h; exact ⟨h.1.symm, h.2.symm⟩)
  have HV2 := Lib.hid (HV.out _ _ hR)
  rw [hn] at hlen CU
  have hlve : ∀ k, k < n → B.lvAll base c n k ≤ 67108864 := fun k hk => by have := B.lvAll_le base c n k hk; omega
  have HLI := Lib.hid (show ∀ w v, Rd w v (lvI base n c) n → Rd w v (fun j => (B.lvAll base c n j : Int)) n from fun w v h => h)
  have HST := Lib.hid (fun k x (hk : (C.clus (U.toks s.data.toList))[k]? = some x) => C.clus_steps _ (C.toks_14 _) k x hk)
  have HRA := Lib.hid (fun k (h : k < (U.toks s.data.toList).length) => runesL_at s.data.toList k h)
  have HRL := Lib.hid (runesL_len s.data.toList)
  have hrl4 : (runesL s.data.toList).length ≤ 4194304 := by rw [runesL_len]; exact Nat.le_trans toks_len hs
  have CA := Lib.hid (fun r w => classR_any r w)
  have MI := Lib.hid (fun r w => mirrorR_any r w)
  obtain ⟨K, hK⟩ : ∃ K, C.clus (U.toks s.data.toList) = K := ⟨_, rfl⟩
  obtain ⟨RL, hRL⟩ : ∃ R, runesL s.data.toList = R := ⟨_, rfl⟩
  obtain ⟨l, hl⟩ : ∃ l, U.toks s.data.toList = l := ⟨_, rfl⟩
  rw [hK] at CU HST hn
  rw [hl] at HST HRA HRL HV2
  rw [hRL] at RU HRA HRL hrl4
  obtain ⟨X, hX⟩ : ∃ f, B.lvAll base c n = f := ⟨_, rfl⟩
  rw [hX] at hlve HLI HV2
  have HLVE := Lib.hid hlve
  obtain ⟨Y, hY⟩ : ∃ f, lvI base n c = f := ⟨_, rfl⟩
  rw [hY] at LV HLI
  have HN := Lib.hid hn
  clear hK hRL hl hc hn HV hR hX hlve hY
  go_enter Try.func26, Try.ntmps26
  go_wp2_with (first
    | (go_at_call 19; (with_reducible refine (LV.out _).mono ?_); rintro e w1 ⟨v1, rfl, hb1, hr1⟩; obtain ⟨A1, c1, rfl, hc1, hA1⟩ := ownN_form hr1)
    | (go_at_call 50; (with_reducible refine (RU.out _).mono ?_); rintro e w2 ⟨v2, rfl, hb2, hr2⟩; obtain ⟨A2, c2, rfl, hA2⟩ := own_form hr2)
    | fail)
  have HRow := Lib.hid (And.intro hb1 (And.intro hr1 (And.intro hb2 hr2)))
  clear hb1 hr1 hb2
  go_loopw [9] (fun iv wx => ∃ k : Nat, iv = .int .i64 (k : Int) ∧ k ≤ RL.length ∧ Below w2.heap.size w2 wx ∧ Hid (∀ j, j < k → B.cls (C.rune l j : Int) ≠ 1)) (fun iv _ => RL.length - (RowKit.intOf iv).toNat)
  case atStart => exact ⟨0, rfl, Nat.zero_le _, Below.refl _ _, Lib.hid (fun j h => absurd h (Nat.not_lt_zero _))⟩
  case round =>
    obtain ⟨k, rfl, hk, hB, hno⟩ := hrel
    by_cases hlt : k < RL.length
    · obtain ⟨g2, rfl⟩ := hA2 (by omega)
      have hra := HRA.out k (by have := HRL.out; omega)
      have r0 := nums_at (own_below hr2 hB) hra
      have CAx := CA.out (C.rune l k : Int)
      obtain ⟨y, hy⟩ : ∃ y, (C.rune l k : Int) = y := ⟨_, rfl⟩
      rw [hy] at r0 CAx
      obtain ⟨q, hq⟩ : ∃ q, B.cls y = q := ⟨_, rfl⟩
      rw [hq] at CAx
      have CAx := Lib.hid CAx
      have HY := Lib.hid (And.intro hy hq)
      have HB := Lib.hid hB
      clear hra hy hq hB hr2
      by_cases h1 : q = 1
      · subst h1
        have hfl : B.line l = false := by
          cases h : B.line l with
          | false => rfl
          | true =>
            have hkl : k < l.length := by have := HRL.out; omega
            have := List.all_eq_true.1 h _ (List.getElem_mem hkl)
            have h2 := HY.out.2
            rw [← HY.out.1] at h2
            unfold C.rune at h2
            rw [List.getElem?_eq_getElem hkl] at h2
            simp at h2 this
            exact absurd h2 this
        obtain ⟨rfl, rfl⟩ := HV2.out.1 hfl
        clear hfl
        go_wp2_with (go_at_call 13; (with_reducible refine (CAx.out _).mono ?_); rintro e w3 ⟨rfl, hb3⟩)
        refine bodyPost_ret (results_tmp2 rfl _ _ _) rfl ?_
        exact ⟨rfl, bst (bst (bst HRow.out.1 HRow.out.2.2.1) HB.out) hb3⟩
      · have hb : ((q : Int) == 1) = false := by simp; omega
        go_wp2_with (go_at_call 13; (with_reducible refine (CAx.out _).mono ?_); rintro e w3 ⟨rfl, hb3⟩)
        go_roundw
        case rel =>
          refine ⟨k + 1, by go_num, hlt, bst HB.out hb3, Lib.hid (fun j hj => ?_)⟩
          rcases Nat.lt_or_ge j k with h | h
          · exact hno.out j h
          · obtain rfl : j = k := by omega
            rw [HY.out.1, HY.out.2]; exact h1
        case measure => simp [RowKit.intOf]; omega
    · obtain rfl : k = RL.length := by omega
      have hln : B.line l = true := by
        unfold B.line
        rw [List.all_eq_true]
        intro t ht
        obtain ⟨j, hj, e⟩ := List.mem_iff_getElem.1 ht
        have := hno.out j (by have := HRL.out; omega)
        unfold C.rune at this
        rw [List.getElem?_eq_getElem hj, e] at this
        simpa using this
      obtain ⟨hv1, rfl⟩ := HV2.out.2 hln
      have HV := Lib.hid hv1
      have HB := Lib.hid hB
      clear hno hln hv1 hB
      go_wp2_with (first
        | (go_at_call 51; (with_reducible refine (CU.out _).mono ?_); rintro e w3 ⟨v3, rfl, hb3, hr3⟩; obtain ⟨A3, c3, rfl, hA3⟩ := own_form hr3)
        | (go_at_call 24; (with_reducible refine (orderR_any n X _ _ (by omega) HLVE.out (HLI.out _ _ ((row_rd HRow.out.2.1).below (bst (bst HRow.out.2.2.1 HB.out) hb3)))).mono ?_); rintro e w4 ⟨v4, rfl, hb4, hr4⟩)
        | fail)
      have HR := Lib.hid (And.intro hb3 (And.intro hb4 (And.intro hr3 (And.intro hr4 hr2))))
      have HORD := Lib.hid (fun k (hk : k < n) => ord_lt X n k hk)
      obtain ⟨A4, c4, rfl, hc4, hA4⟩ := hr4
      obtain ⟨O, hO⟩ : ∃ f, B.ord X n = f := ⟨_, rfl⟩
      have HO := Lib.hid hO
      rw [hO] at hA4 HORD
      have hA4 := Lib.hid hA4
      clear hb3 hb4 hr3 hr2 hO
      go_loopw [12, 13] (fun ov iv wx => ∃ k : Nat, iv = .int .i64 (k : Int) ∧ k ≤ n ∧ Below w4.heap.size w4 wx ∧ wx.ownsRow w4.heap.size 3 1 ov (B.visR l X n k).length (nums (B.visR l X n k))) (fun _ iv _ => n - (RowKit.intOf iv).toNat)
      case atStart => exact ⟨0, rfl, Nat.zero_le _, Below.refl _ _, World.ownsRow_nil _ _ _ _⟩
      case round =>
        obtain ⟨k, rfl, hk, hB, hrow⟩ := hrel
        by_cases hlt : k < n
        · have hin := HORD.out k hlt
          obtain ⟨g4, o4, rfl, h4⟩ := hA4.out (by omega)
          have o0' : w4.cell? ⟨g4, o4 + k, none⟩ = some (.int .i64 (O k : Int)) := h4 k hlt
          have o0 := (World.cell?_of_block (hB.block _ (World.block_lt_of_cell? _ _ o0'))).trans o0'
          obtain ⟨i, hi2⟩ : ∃ i, O k = i := ⟨_, rfl⟩
          rw [hi2] at hin o0
          obtain ⟨g3, rfl⟩ := hA3 (by omega)
          obtain ⟨x, hx⟩ : ∃ x, K[i]? = some x := ⟨_, List.getElem?_eq_getElem (by rw [HN.out]; exact hin)⟩
          obtain ⟨hb3, hb4, hr3, hr4, hr2⟩ := HR.out
          obtain ⟨d0, d1, d2, d3, d4⟩ := cellsC_at (own_below hr3 (bst hb4 hB)) hx
          have D := fun o => cellsC_at (own_below hr3 ((bst hb4 hB).alloc (bst hb4 hB).size o)) hx
          have e0 := fun o => (D o).1
          have e1 := fun o => (D o).2.1
          have e2 := fun o => (D o).2.2.1
          have e3 := fun o => (D o).2.2.2.1
          have e4 := fun o => (D o).2.2.2.2
          have f0 := fun o => (World.cell?_of_block (Below.heap_alloc wr o _ (World.block_lt_of_cell? _ _ o0))).trans o0
          have HX := Lib.hid (And.intro hx (And.intro hi2 (And.intro hB hrow)))
          have hBs := hB.size
          clear D hx hi2 hB hrow h4 o0' hb3 hb4 hr3 hr4 hr2
          go_upto_region 17 with fail
          obtain ⟨w5, hw5⟩ : ∃ y, wr.alloc (.cells #[.int .i64 (x.at_ : Int), .int .i64 (x.len : Int), .int .i64 (x.frm : Int), .int .i64 (x.to_ : Int), .int .i64 (x.cells : Int)] 86) = y := ⟨_, rfl⟩
          have hbox : BxR w5 wr.heap.size x := by rw [← hw5]; exact World.alloc_heap_new wr _
          have hB5 : Below w4.heap.size w4 w5 := by rw [← hw5]; exact HX.out.2.2.1.alloc hBs _
          have hrow5 : w5.ownsRow w4.heap.size 3 1 u12 (B.visR l X n k).length (nums (B.visR l X n k)) := by rw [← hw5]; exact HX.out.2.2.2.alloc _
          obtain ⟨bx, hbx⟩ : ∃ z, wr.heap.size = z := ⟨_, rfl⟩
          rw [hbx] at hbox hBs
          rw [hw5, hbx]
          have hfr : x.frm = C.sgF l i := (HST.out i x HX.out.1).2.1
          have hto : x.to_ = C.sgF l (i + 1) := (HST.out i x HX.out.1).2.2.1
          obtain ⟨frm, hfrm⟩ : ∃ z, x.frm = z := ⟨_, rfl⟩
          obtain ⟨tz, htz⟩ : ∃ z, x.to_ = z := ⟨_, rfl⟩
          rw [hfrm] at hfr
          rw [htz] at hto
          have hft : frm ≤ tz := by
            obtain ⟨_, _, _, _, q5, q6, q7, _⟩ := HST.out i x HX.out.1
            omega
          have htl : tz ≤ RL.length := by have := sgF_le l (i + 1); have := HRL.out; omega
          have KBX : Hid (∀ W, BxR W bx x → W.cell? ⟨bx, 2, none⟩ = some (.int .i64 (frm : Int)) ∧ W.cell? ⟨bx, 3, none⟩ = some (.int .i64 (tz : Int))) := Lib.hid (fun W h => by
            rw [← hfrm, ← htz]
            unfold BxR at h
            exact ⟨by simp [World.cell?, h], by simp [World.cell?, h]⟩)
          obtain ⟨V, hV⟩ : ∃ V : Nat → Int, (fun q => B.vis1 l X i (q - frm)) = V := ⟨_, rfl⟩
          have HVq : Hid (∀ q, frm ≤ q → V q = if q = frm ∧ X i % 2 = 1 then B.mir (C.rune l frm : Int) else (C.rune l q : Int)) := Lib.hid (fun q hq => by
            rw [← hV]
            show B.vis1 l X i (q - frm) = _
            unfold B.vis1
            rw [← hfr, show frm + (q - frm) = q by omega]
            by_cases e : q = frm
            · rw [e]; simp
            · rw [if_neg (fun h => by omega), if_neg (fun h => e h.1)])
          obtain ⟨G, hG⟩ : ∃ G : Nat → List Int, (fun q => B.visR l X n k ++ B.visN l X i (q - frm)) = G := ⟨_, rfl⟩
          have hg0 : G frm = B.visR l X n k := by rw [← hG]; simp [B.visN]
          have HGs : Hid (∀ q, frm ≤ q → G (q + 1) = G q ++ [V q]) := Lib.hid (fun q hq => by
            rw [← hG, ← hV]
            show _ ++ B.visN l X i (q + 1 - frm) = _
            rw [show q + 1 - frm = (q - frm) + 1 by omega, B.visN_succ, List.append_assoc])
          have HGe : Hid (G tz = B.visR l X n (k + 1)) := Lib.hid (by
            rw [← hG, B.visR_succ, HO.out, HX.out.2.1]
            unfold B.visI
            rw [← hto, ← hfr])
          have HGl : Hid (∀ q, q < tz → (G q).length + 1 ≤ 17592186044416) := Lib.hid (fun q hq => by
            have q3 := B.visR_len l X n 4194304 (fun q => by have := sgF_le l (q + 1); have := HRL.out; omega) k
            rw [← hG]
            simp only [List.length_append, B.visN_len]
            omega)
          rw [← hg0] at hrow5
          have HS := Lib.hid (And.intro hB5 (And.intro hrow5 hbox))
          have f2 := (KBX.out _ hbox).1
          clear hbox hB5 hrow5 hw5 hbx hfr hto hfrm htz hV hG hg0 d0 d1 d2 d3 d4 e0 e1 e2 e3 e4 f0 o0
          go_wp2
          go_loopw [12, 15] (fun ov qv wx => ∃ q : Nat, qv = .int .i64 (q : Int) ∧ frm ≤ q ∧ q ≤ tz ∧ Below w4.heap.size w4 wx ∧ wx.ownsRow w4.heap.size 3 1 ov (G q).length (nums (G q)) ∧ BxR wx bx x) (fun _ qv _ => tz - (RowKit.intOf qv).toNat)
          case atStart => exact ⟨frm, rfl, Nat.le_refl _, hft, HS.out.1, HS.out.2.1, HS.out.2.2⟩
          case round =>
            obtain ⟨q, rfl, hq1, hq2, hB, hrow, hbox⟩ := hrel
            obtain ⟨x2, x3⟩ := KBX.out _ hbox
            have hBs := hB.size
            by_cases hql : q < tz
            · obtain ⟨g2, rfl⟩ := hA2 (by omega)
              obtain ⟨hb3, hb4, hr3, hr4, hr2⟩ := HR.out
              have hB2 : Below w2.heap.size w2 wr := bst (bst (bst HB.out hb3) hb4) hB
              have r0 := nums_at (own_below hr2 hB2) (HRA.out q (by have := HRL.out; omega))
              have o0' : w4.cell? ⟨g4, o4 + k, none⟩ = some (.int .i64 (O k : Int)) := by
                obtain ⟨_, _, ea, hx⟩ := hA4.out (by omega)
                cases ea
                exact hx k hlt
              have o0 := (World.cell?_of_block (hB.block _ (World.block_lt_of_cell? _ _ o0'))).trans o0'
              rw [HX.out.2.1] at o0
              obtain ⟨g1, rfl⟩ := hA1 (by omega)
              have hr1 := HLI.out _ _ ((row_rd HRow.out.2.1).below (bst HRow.out.2.2.1 hB2))
              have l0 : wr.cell? ⟨g1, i, none⟩ = some (.int .i64 (X i : Int)) := by
                obtain ⟨_, _, ea, _, hx⟩ := hr1
                cases ea
                obtain ⟨_, _, eb, hx⟩ := hx (by omega)
                cases eb
                have := hx i hin
                rwa [Nat.zero_add] at this
              have hVq := HVq.out q hq1
              have hGs := Lib.hid (HGs.out q hq1)
              have hGl := HGl.out q hql
              obtain ⟨v, hv⟩ : ∃ v, V q = v := ⟨_, rfl⟩
              rw [hv] at hVq hGs
              obtain ⟨gl, hgl⟩ : ∃ v, G q = v := ⟨_, rfl⟩
              rw [hgl] at hGs hGl hrow
              obtain ⟨xi, hxi⟩ : ∃ v, X i = v := ⟨_, rfl⟩
              rw [hxi] at l0 hVq
              have lpar : (xi : Int) % 2 = 1 ∨ (xi : Int) % 2 = 0 := by omega
              obtain ⟨rq, hrq⟩ : ∃ v : Int, (C.rune l q : Int) = v := ⟨_, rfl⟩
              have HRQ : Hid (q = frm → (C.rune l frm : Int) = rq) := Lib.hid (fun e => by rw [← e]; exact hrq)
              rw [hrq] at r0 hVq
              have AP : Hid (∀ W, Below wr.heap.size wr W → W.ownsRow w4.heap.size 3 1 u12 gl.length (nums gl) ∧ w4.heap.size ≤ W.heap.size) := Lib.hid (fun W h => ⟨own_below hrow h, by have := h.size; omega⟩)
              have FN : Hid (∀ W v' w7, Below wr.heap.size wr W → (W.alloc (.cells #[.int .i64 v] 3)).grownBy w7 u12.ownBlock → w7.ownsRow w4.heap.size 3 1 v' (gl.length + 1) (nums gl ++ [.int .i64 v]) → Below w4.heap.size w4 w7 ∧ w7.ownsRow w4.heap.size 3 1 v' (G (q + 1)).length (nums (G (q + 1))) ∧ BxR w7 bx x) := Lib.hid (fun W v' w7 h hg ho => by
                have hW := bst hB h
                have hz := h.size
                refine ⟨(hW.alloc hW.size _).grown hg (by simp; omega) (fun q e => (hrow.lt q e).1), ?_, ?_⟩
                · rw [hGs.out, List.length_append, nums_snoc]; exact ho
                · have hbl : bx < wr.heap.size := (Array.getElem?_eq_some_iff.1 hbox).1
                  have h1 : W.heap[bx]? = _ := (h.block bx hbl).trans hbox
                  have h2 : (W.alloc (.cells #[.int .i64 v] 3)).heap[bx]? = _ := (Below.heap_alloc W _ bx (by omega)).trans h1
                  exact (hg.block bx (by simp; omega) (fun e => own_other hrow hbox (by decide) e.symm)).trans h2)
              have hqz : q < RL.length := by omega
              clear hb3 hb4 hr3 hr4 hr2 hB2 hr1 hB hrow hbox hv hgl hrq o0' hxi
              rcases Nat.eq_or_lt_of_le hq1 with h0 | h0
              · subst h0
                have b0 : ((frm : Int) == (frm : Int)) = true := by simp
                rcases lpar with hod | hod
                · have hvm : v = B.mir rq := by
                    rw [hVq, if_pos ⟨rfl, by omega⟩]
                    rw [HRQ.out rfl]
                  have MIx := Lib.hid (fun w => hvm ▸ MI.out rq w)
                  clear hVq hvm
                  go_wp2_with (first
                    | (go_at_call 15; (with_reducible refine (MIx.out _).mono ?_); rintro e w6 ⟨rfl, hb6⟩)
                    | (at_builtin; go_must (refine wpList_append_own _ rfl _ _ 29 rfl w4.heap.size 3 i0 _ 1 8 Try.underlying29 hi hz0 hz1 hz2 rfl (by decide) _ _ _ rfl ((AP.out _ hb6).1.alloc _) ⟨w6.heap.size, 0, none⟩ 1 1 [.int .i64 v] rfl rfl (World.news_of_block (World.alloc_heap_new w6 _)) (by simp [Value.oneCell']) (by unfold maxLen; omega) (by omega) (by simp; have := (AP.out _ hb6).2; omega) ?_); intro v' w7 hown hg _)
                    | fail)
                  obtain ⟨z1, z2, z3⟩ := FN.out _ _ _ hb6 hg hown
                  go_roundw
                  case rel => exact ⟨frm + 1, by go_num, by omega, by omega, z1, z2, z3⟩
                  case measure => simp [RowKit.intOf]; omega
                · have hvm : v = rq := by
                    rw [hVq, if_neg (by omega)]
                  subst hvm
                  clear hVq
                  go_wp2_with (first
                    | (at_builtin; go_must (refine wpList_append_own _ rfl _ _ 29 rfl w4.heap.size 3 i0 _ 1 8 Try.underlying29 hi hz0 hz1 hz2 rfl (by decide) _ _ _ rfl ((AP.out _ (Below.refl _ _)).1.alloc _) ⟨wr.heap.size, 0, none⟩ 1 1 [.int .i64 v] rfl rfl (World.news_of_block (World.alloc_heap_new wr _)) (by simp [Value.oneCell']) (by unfold maxLen; omega) (by omega) (by simp; have := (AP.out _ (Below.refl _ _)).2; omega) ?_); intro v' w7 hown hg _)
                    | fail)
                  obtain ⟨z1, z2, z3⟩ := FN.out _ _ _ (Below.refl _ _) hg hown
                  go_roundw
                  case rel => exact ⟨frm + 1, by go_num, by omega, by omega, z1, z2, z3⟩
                  case measure => simp [RowKit.intOf]; omega
              · have b0 : ((q : Int) == (frm : Int)) = false := by simp; omega
                have hvm : v = rq := by
                  rw [hVq, if_neg (by omega)]
                subst hvm
                clear hVq
                go_wp2_with (first
                  | (at_builtin; go_must (refine wpList_append_own _ rfl _ _ 29 rfl w4.heap.size 3 i0 _ 1 8 Try.underlying29 hi hz0 hz1 hz2 rfl (by decide) _ _ _ rfl ((AP.out _ (Below.refl _ _)).1.alloc _) ⟨wr.heap.size, 0, none⟩ 1 1 [.int .i64 v] rfl rfl (World.news_of_block (World.alloc_heap_new wr _)) (by simp [Value.oneCell']) (by unfold maxLen; omega) (by omega) (by simp; have := (AP.out _ (Below.refl _ _)).2; omega) ?_); intro v' w7 hown hg _)
                  | fail)
                obtain ⟨z1, z2, z3⟩ := FN.out _ _ _ (Below.refl _ _) hg hown
                go_roundw
                case rel => exact ⟨q + 1, by go_num, by omega, by omega, z1, z2, z3⟩
                case measure => simp [RowKit.intOf]; omega
            · obtain rfl : q = tz := by omega
              have HE := Lib.hid (And.intro hB hrow)
              clear hB hrow hbox
              go_wp2
              go_roundw
              case rel => exact ⟨k + 1, by go_num, hlt, HE.out.1, by rw [← HGe.out]; exact HE.out.2⟩
              case measure => simp [RowKit.intOf]; omega
        · obtain rfl : n = k := by omega
          obtain ⟨hb3, hb4, _, _, _⟩ := HR.out
          have hF : Below w.heap.size w wr := bst (bst (bst (bst (bst HRow.out.1 HRow.out.2.2.1) HB.out) hb3) hb4) hB
          have hgl : (B.visR l X n n).length ≤ 17592186044416 := by
            have q3 := B.visR_len l X n 4194304 (fun q => by have := sgF_le l (q + 1); have := HRL.out; omega) n
            omega
          have HF := Lib.hid hF
          have TX := Lib.hid (textR_any _ _ _ _ hgl hrow)
          rw [← HV.out] at TX
          clear hb3 hb4 hF hgl hB hrow
          go_wp2_with (go_at_call 52; (with_reducible refine TX.out.mono ?_); rintro e w8 ⟨rfl, hb8⟩)
          refine bodyPost_ret (results_tmp2 rfl _ _ _) rfl ?_
          exact ⟨rfl, bst HF.out hb8⟩
end Go.Proofs.Ytclblidfamabdaa
