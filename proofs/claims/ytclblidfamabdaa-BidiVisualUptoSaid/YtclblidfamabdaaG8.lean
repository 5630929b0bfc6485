/- bidi.Levels: the walk. -/
import Derived.Test.YtclblidfamabdaaG7
import Derived.Deep.RegionHeld3
import Derived.Deep.DeepCutAuto
set_option linter.unusedVariables false
set_option linter.unusedSimpArgs false
namespace Go.Proofs.Ytclblidfamabdaa
open Go.RowKit Go.Shelf Go.Lib Go.BigFrame
attribute [local go_sem] Oper.semAt_some

section
variable {P : Program} {w : World}
theorem step_make_any {ops : Array Oper} {o : Oper} {a : Act} {K : Act → World → Prop} {Q : Exit → Act → World → Prop} {E : Prop} {R : Value → World → Prop} (hgd : o.guard = none) (l c : Operand) (t : TypeId)
    (ho : o.op = Op.makeSlice t l c) (lv cv : Value) (hl : a.eval l = lv) (hc : a.eval c = cv)
    (hr : ∃ v' w', (Instr.makeSlice t lv cv).run P w = .ok v' w' ∧ R v' w') (h : ∀ v' w', R v' w' → K (a.put o.dst v') w') :
    if Region.wanted o (yielded ops a.tmps) = true then Oper.wp P o a w K Q else E := by
  have hw : Region.wanted o (yielded ops a.tmps) = true := by simp [Region.wanted, hgd]
  rw [if_pos hw]
  obtain ⟨v', w', hrun, r1⟩ := hr
  unfold Oper.wp
  simp [execOp, ho, hl, hc, hrun, Result.andThen]
  exact h _ _ r1
end
theorem cells_at {w : World} {base : Nat} {e : TypeId} {sz g n cap : Nat} {xs : List Value} (h : w.ownsRow base e sz (.slice (some ⟨g, 0, none⟩) n cap) n xs) (j : Nat) (u : Value) (hu : xs[j]? = some u) : w.cell? ⟨g, j, none⟩ = some u := by
  have := h.cells (g := g) rfl j u hu
  rwa [Go.WideShapes.add_plain, Nat.zero_add] at this
theorem Pars.le {W : World} {c : Nat → Nat} {n P : Nat} {bg : Nat → Nat} {L : List Value} (h : Pars W c n P bg L) : ∀ d k, k + d = P → bg k ≤ n := by
  intro d
  induction d with
  | zero => intro k hk; rw [show k = P by omega, h.all]; exact Nat.le_refl _
  | succ d ih => intro k hk; have := ih (k + 1) (by omega); have := h.mono k (by omega); omega
def MkR (W' : World) (m : Nat) (v' : Value) (w' : World) : Prop := ∃ gl, v' = .slice (some ⟨gl, 0, none⟩) m m ∧ gl = W'.heap.size ∧ Below W'.heap.size W' w' ∧ w'.heap.size = W'.heap.size + 1 ∧ Rw w' gl (fun _ => 0) m
theorem make_run (W : World) (m : Nat) (hm : m ≤ 4194304) : ∃ v' w', (Instr.makeSlice 29 (.int .i64 (m : Int)) (.int .i64 (m : Int))).run Try.prog W = .ok v' w' ∧ MkR W m v' w' := by
  obtain ⟨i0, hi, hz0, hz1, hz2⟩ := info_parts Try.infoIn
  have h := run_make (P := Try.prog) W 29 3 i0 _ Try.underlying29 hi hz0 .i64 .i64 (m : Int) (m : Int) (by omega) (by omega) (by rw [hz2]; omega) (by omega)
  rw [hz1, Int.toNat_natCast, Nat.mul_one] at h
  exact ⟨_, _, h, W.heap.size, rfl, rfl, (Below.refl _ _).alloc (Nat.le_refl _) _, by simp, make_rw W m⟩
def lvI (base n : Nat) (c : Nat → Nat) (k : Nat) : Int := (B.lvAll base c n k : Int)
theorem ns_append (f : Nat → Int) (a b : Nat) : ns f (a + b) = ns f a ++ ns (fun j => f (a + j)) b := by
  induction b with
  | zero => simp [ns]
  | succ b ih => rw [← Nat.add_assoc, ns_succ, ih, ns_succ, List.append_assoc]
/-- A paragraph's levels, laid one behind the other. -/
theorem ns_part {W : World} {c cN : Nat → Nat} {n P : Nat} {bg : Nat → Nat} {L : List Value} {base k m : Nat} (h : Pars W c n P bg L) (hk : k < P) (hm : bg (k + 1) - bg k = m) (hN : (fun j => c (bg k + j)) = cN) (lv : Nat → Int) (hl : ∀ j, j < m → lv j = (B.lev (B.chg cN m) (B.clo cN m) m 0 m base j : Int)) : ns (lvI base n c) (bg (k + 1)) = ns (lvI base n c) (bg k) ++ ns (lstI base cN m lv) m := by
  have hmo := h.mono k hk
  rw [show bg (k + 1) = bg k + m by omega, ns_append]
  congr 1
  apply ns_congr
  intro j hj
  have e1 : B.pbeg c (bg k + j) = bg k := h.beg k (bg k + j) hk (by omega) (by omega)
  have e2 : B.pfin c n (bg k) = bg (k + 1) := h.fin k hk
  show ((B.lvAll base c n (bg k + j) : Nat) : Int) = _
  unfold B.lvAll
  rw [e1, e2, hm, hN, show bg k + j - bg k = j by omega]
  unfold B.plev lstI
  rw [hl j hj, B.lev_chg (B.clo_ok cN m) m 0 m base j (Nat.zero_le _)]
  by_cases h1 : cN j = 1 ∨ cN j = 2
  · rw [if_pos h1, if_pos h1]
  · rw [if_neg h1, if_neg h1]
    by_cases h2 : (cN j = 3 ∨ B.isIso (cN j) = true) ∧ B.rimF cN m (m - 1 - j) = true
    · rw [if_pos h2, if_pos h2]
    · rw [if_neg h2, if_neg h2]
set_option maxRecDepth 1000000 in
set_option maxHeartbeats 4000000 in
theorem levels_at0 (s : ByteArray) (w : World) (hs : s.size ≤ 4194304) (n : Nat) (hn : (C.clus (U.toks s.data.toList)).length = n) (c : Nat → Nat) (hc : B.kcl (U.toks s.data.toList) = c) :
    Calls Try.prog 18 #[.string s, .int .i64 0] w fun e w' => ∃ v, e = .returned (.tuple #[v, .int .i64 0]) ∧ Below w.heap.size w w' ∧ w'.ownsRow w.heap.size 3 1 v n (ns (lvI 0 n c) n) := by
  obtain ⟨i0, hi, hz0, hz1, hz2⟩ := info_parts Try.infoIn
  have hlen : (C.clus (U.toks s.data.toList)).length ≤ s.size := Nat.le_trans (C.clus_length_le _) toks_len
  rw [hn] at hlen
  have CL := Lib.hid (fun w => classes_any s w hs)
  rw [hn, show kcI (U.toks s.data.toList) = fun j => (c j : Int) by rw [← hc]; rfl] at CL
  have PA := Lib.hid (fun v w (h : Rd w v (fun j => (c j : Int)) n) => paragraphs_any n c v w (by omega) h)
  have HCL := Lib.hid (fun j => hc ▸ B.kcl_le (U.toks s.data.toList) j : ∀ j, 1 ≤ c j ∧ c j ≤ 17)
  clear hn hc
  go_enter Try.func18, Try.ntmps18
  go_wp2_with (first
    | (go_at_call 32; (with_reducible refine (CL.out _).mono ?_); rintro e w1 ⟨v1, rfl, hb1, hr1⟩)
    | (go_at_call 31; (with_reducible refine (PA.out _ _ (row_rd hr1)).mono ?_); rintro e w2 ⟨v2, P, bg, L, rfl, hb2, hr2, hP⟩; obtain ⟨A2, C2, rfl, hC2, hA2⟩ := ownN_form hr2)
    | fail)
  have hB2 := bst hb1 hb2
  have hPn := hP.le_n
  go_loopw [6, 20] (fun ov iv wx => ∃ k : Nat, iv = .int .i64 (k : Int) ∧ k ≤ P ∧ Below w2.heap.size w2 wx ∧ wx.ownsRow w2.heap.size 3 1 ov (bg k) (ns (lvI 0 n c) (bg k))) (fun _ iv _ => P - (RowKit.intOf iv).toNat)
  case atStart => exact ⟨0, rfl, Nat.zero_le _, Below.refl _ _, by rw [hP.zero]; exact World.ownsRow_nil _ _ _ _⟩
  case round =>
    obtain ⟨k, rfl, hk, hB, hrow⟩ := hrel
    by_cases hlt : k < P
    · obtain ⟨g2, rfl⟩ := hA2 (by omega)
      obtain ⟨u, hu, hRu⟩ := hP.items k hlt
      have hu0 : w2.cell? ⟨g2, k, none⟩ = some u := cells_at hr2 k u hu
      have huW : wr.cell? ⟨g2, k, none⟩ = some u := (World.cell?_of_block (hB.block _ (World.block_lt_of_cell? _ _ hu0))).trans hu0
      have hbgm := hP.mono k hlt
      obtain ⟨m, hm⟩ : ∃ m, bg (k + 1) - bg k = m := ⟨_, rfl⟩
      rw [hm] at hRu
      have hbn : bg (k + 1) ≤ n := hP.le (P - (k + 1)) (k + 1) (by omega)
      have HRU := Lib.hid hRu
      obtain ⟨UA, uc, rfl, huc, hu1⟩ := hRu
      have HR := Lib.hid (And.intro hB hrow)
      clear hB hrow hu1
      have hm4 : m ≤ 4194304 := by omega
      obtain ⟨cN, hcN⟩ : ∃ f : Nat → Nat, (fun j => c (bg k + j)) = f := ⟨_, rfl⟩
      obtain ⟨cc, hcc⟩ : ∃ f : Nat → Int, (fun j => (cN j : Int)) = f := ⟨_, rfl⟩
      rw [show (fun j => (c (bg k + j) : Int)) = cc by rw [← hcc, ← hcN]] at HRU
      have HCC := Lib.hid (And.intro hcN hcc)
      have CLN : Hid (∀ W', Below wr.heap.size wr W' → Calls Try.prog 33 #[.slice UA m uc] W' fun e w' => ∃ v', e = .returned v' ∧ Below W'.heap.size W' w' ∧ Cn W' w' cc m v') := Lib.hid (fun W' h => clone_any _ m cc W' hm4 (HRU.out.below (bst (bst hb2 HR.out.1) h)))
      have hmk : ∀ W : World, (Instr.makeSlice 29 (.int .i64 (m : Int)) (.int .i64 (m : Int))).run Try.prog W = .ok (.slice (some ⟨W.heap.size, 0, none⟩) m m) (W.alloc (.cells (madeCells (Value.int .i64 0).cells m) 3)) := fun W => by
        have h := run_make (P := Try.prog) W 29 3 i0 _ Try.underlying29 hi hz0 .i64 .i64 (m : Int) (m : Int) (by omega) (by omega) (by rw [hz2]; omega) (by omega)
        rw [h, hz1, Int.toNat_natCast, Nat.mul_one]
      have HMR := Lib.hid (fun W => make_rw W m)
      obtain ⟨MC, hMC⟩ : ∃ M, madeCells (Value.int .i64 0).cells m = M := ⟨_, rfl⟩
      rw [hMC] at hmk HMR
      clear hMC
      clear hcc hcN
      go_upto_region 8 with fail
      go_cut [9] (fun s9 wx => ∃ xb gl A3 c3, s9 = .pointer (some ⟨xb, 0, none⟩) ∧ P7 wr wx (.slice UA m uc) cc m xb gl A3 c3)
      case first =>
        go_region_held3 (fun W' => Below wr.heap.size wr W') (first | assumption | (repeat' (first | assumption | exact Below.refl _ _ | refine Below.drew ?_ | refine Below.alloc ?_ ?_ _ | exact Nat.le_refl _ | exact Below.size (by assumption) | (refine bst ?_ (by assumption)) | (simp; done))))
          ((first
            | (go_at_call 33; (with_reducible refine (CLN.out _ (by first | assumption | exact Below.drew (Below.refl _ _))).mono ?_); rintro e w3 ⟨v3, rfl, hb3, A3, c3, rfl, hc3, ho3, hn3⟩)
            | fail))
        all_goals (go_wp2_with fail; go_meet)
        · exact ⟨_, _, A3, c3, rfl, p7_a ((Below.refl _ _).drew) hb3 hc3 ho3 hn3 HMR.out⟩
        · exact ⟨_, _, A3, c3, rfl, p7_b (((Below.refl _ _).alloc (Nat.le_refl _) _).drew) hb3 (Nat.le_refl _) (HMR.out wr) hc3 ho3 hn3⟩
      case rest =>
        obtain ⟨xb, gl, A3, c3, rfl, h7⟩ := hcut
        obtain ⟨g, hg⟩ : ∃ g, wr.heap.size ≤ g ∧ g ≠ gl ∧ g ≠ xb ∧ (0 < m → A3 = some ⟨g, 0, none⟩ ∧ Rw wc g cc m) := by
          rcases Nat.eq_zero_or_pos m with h | h
          · have := h7.far
            exact ⟨xb + gl + 1, by omega, by omega, by omega, fun h' => absurd h' (by omega)⟩
          · obtain ⟨g, e, h1, h2, h3, h4⟩ := h7.cln h
            exact ⟨g, h1, h2, h3, fun _ => ⟨e, h4⟩⟩
        have MT := Lib.hid (match_any A3 g m c3 cN wc hm4 h7.cap (fun h => by rw [HCC.out.2]; exact hg.2.2.2 h))
        have x1 : wc.cell? ⟨xb, 1, none⟩ = some (.slice A3 m c3) := by simp [World.cell?, h7.box]
        have KX : Hid (∀ w', Fr (fun k => k ≠ g) wc w' → w'.heap[xb]? = some (.cells #[.slice UA m uc, .slice A3 m c3, .slice none 0 0, .slice (some ⟨gl, 0, none⟩) m m] 55 (0, 0)) ∧ w'.frozen? ⟨xb, 2, none⟩ = false ∧ w'.cell? ⟨xb, 2, none⟩ = some (.slice none 0 0)) := Lib.hid (fun w' h => by
          have hb : w'.heap[xb]? = _ := (h.block xb (Array.getElem?_eq_some_iff.1 h7.box).1 (Ne.symm hg.2.2.1)).trans h7.box
          exact ⟨hb, by simp [World.frozen?, hb], by simp [World.cell?, hb]⟩)
        have H7 := Lib.hid (And.intro h7 hg)
        clear h7 hg
        go_upto_region 9 with (go_at_call 34; (with_reducible refine MT.out.mono ?_); rintro e w4 ⟨gc, rfl, hf4, hgc, hr4, hch4⟩; obtain ⟨xb4, xf4, xc4⟩ := KX.out _ hf4)
        have hg := H7.out.2
        have h7 := H7.out.1
        have hcN17 : ∀ j, cN j ≤ 17 := fun j => by rw [← HCC.out.1]; exact (HCL.out _).2
        have hcl := B.clo_ok cN m
        have hPx := p7_px (ch := B.chg cN m) (cl := B.clo cN m) h7 hf4 hg.2.2.1 hg.2.1 hgc hr4 (fun h => ⟨(hg.2.2.2 h).1, hch4 h⟩)
        have hL5 : Rw (w4.setCell ⟨xb, 2, none⟩ (.slice (some ⟨gc, 0, none⟩) m m)) gl (fun _ => 0) m := (h7.zero.fr hf4 (Ne.symm hg.2.1)).other h7.far.2.1
        obtain ⟨w5, hw5⟩ : ∃ x, w4.setCell ⟨xb, 2, none⟩ (.slice (some ⟨gc, 0, none⟩) m m) = x := ⟨_, rfl⟩
        rw [hw5] at hPx hL5 ⊢
        have RW : Hid (Calls Try.prog 35 #[.pointer (some ⟨xb, 0, none⟩), .int .i64 0, .int .i64 (m : Int), .int .i64 0] w5 _) := Lib.hid (rowP_all m (B.chg cN m) (B.clo cN m) hm4 (hcl.ok hcN17) m xb gl _ _ _ 0 m 0 w5 _ (by omega) (Nat.zero_le _) (Nat.le_refl _) (fun x _ h => (hcl.ok hcN17).le x h) (by omega) hPx hL5)
        have H5 := Lib.hid (And.intro hPx hL5)
        have H4 := Lib.hid (And.intro hf4 (And.intro hr4 hgc))
        clear hPx hL5 hf4 hr4 hch4 hgc h7 hg hcl
        go_upto_region 10 with (go_at_call 35; (with_reducible refine RW.out.mono ?_); rintro e w6 ⟨⟨v6, rfl⟩, hf6, hr6⟩)
        have hB6 : Below wr.heap.size wr w6 := by
          have q7 := H7.out.1
          have qg := H7.out.2.1
          have s1 := q7.below.size
          have b4 : Below wr.heap.size wr w4 := q7.below.trans (H4.out.1.toBelow (fun k hk => by show k ≠ g; omega) s1)
          have b5 : Below wr.heap.size wr w5 := by rw [← hw5]; exact b4.setCell (p := ⟨xb, 2, none⟩) (by show wr.heap.size ≤ xb; exact q7.far.2.2) _
          exact b5.trans (hf6.toBelow (fun k hk => by show k ≠ gl; have := q7.far.1; omega) b5.size)
        have hB26 : Below w1.heap.size w1 w6 := bst (bst hb2 HR.out.1) hB6
        have hR6 : Rd w6 (.slice UA m uc) (fun j => (cN j : Int)) m := HCC.out.2 ▸ HRU.out.below hB26
        have hne6 : 0 < m → (Value.slice UA m uc).ownBlock ≠ some gl := fun h0 e => by
          obtain ⟨_, _, e1, _, e2⟩ := HRU.out
          cases e1
          obtain ⟨g0, o0, e3, e4⟩ := e2 h0
          cases e3
          have q1 : g0 < w1.heap.size := World.block_lt_of_cell? _ _ (e4 0 h0)
          have q2 : g0 = gl := Option.some.inj e
          have q3 := (bst hb2 HR.out.1).size
          have q4 := H7.out.1.far.1
          omega
        have hc6 : ∀ j, 1 ≤ cN j ∧ cN j ≤ 17 := fun j => by rw [← HCC.out.1]; exact HCL.out _
        have LS : Hid (Calls Try.prog 36 #[.pointer (some ⟨xb, 0, none⟩), .int .i64 0] w6 _) := Lib.hid (last_any m cN (B.chg cN m) (B.clo cN m) hm4 xb gl _ _ _ 0 w6 _ (H5.out.1.fr hf6) hR6 hne6 hc6 hr6)
        have H6 := Lib.hid (And.intro hB6 hf6)
        clear hf6 hr6 hB6 hB26 hR6 hne6 hc6
        go_upto_region 11 with (go_at_call 36; (with_reducible refine LS.out.mono ?_); rintro e w7 ⟨⟨v7, rfl⟩, hf7, hr7⟩)
        have hB7 : Below wr.heap.size wr w7 := H6.out.1.trans (hf7.toBelow (fun k hk => by show k ≠ gl; have := H7.out.1.far.1; omega) H6.out.1.size)
        have x3 : w7.cell? ⟨xb, 3, none⟩ = some (.slice (some ⟨gl, 0, none⟩) m m) := (H5.out.1.fr (H6.out.2.trans hf7)).cells.2.2.2
        obtain ⟨lv7, hlv7⟩ : ∃ l, lstI 0 cN m (fun k => if 0 ≤ k ∧ k < m then (B.lev (B.chg cN m) (B.clo cN m) m 0 m 0 k : Int) else 0) = l := ⟨_, rfl⟩
        have hNS : ns (lvI 0 n c) (bg (k + 1)) = ns (lvI 0 n c) (bg k) ++ ns lv7 m := by
          rw [← hlv7]
          exact ns_part hP hlt hm HCC.out.1 _ (fun j hj => if_pos ⟨Nat.zero_le _, hj⟩)
        rw [hlv7] at hr7
        have hrow7 := own_below HR.out.2 hB7
        have hnews : ∀ (j : Nat) (u : Value), (ns lv7 m)[j]? = some u → w7.cell? ((⟨gl, 0, none⟩ : Addr).add j) = some u := fun j u hu => by
          have hj : j < m := by have := (List.getElem?_eq_some_iff.1 hu).1; rwa [ns_length] at this
          rw [ns_at lv7 hj] at hu
          cases hu
          rw [Go.WideShapes.add_plain, Nat.zero_add]
          exact (hr7.at hj).1
        have hone : ∀ u ∈ ns lv7 m, u.oneCell' = true := by intro u hu; simp [ns] at hu; obtain ⟨_, _, rfl⟩ := hu; rfl
        have hlen7 : (ns lv7 m).length = m * 1 := by rw [ns_length, Nat.mul_one]
        obtain ⟨b0, hb0⟩ : ∃ b0, bg k = b0 := ⟨_, rfl⟩
        rw [hb0] at hrow7 hNS hm hbgm
        have hsz : b0 + m ≤ 4194304 := by omega
        have HN := Lib.hid (And.intro hrow7 (And.intro hnews (And.intro hone hlen7)))
        have H8 := Lib.hid (And.intro hB7 (And.intro hNS (And.intro hm hbgm)))
        clear hB7 hNS hrow7 hnews hone hlen7 hf7 hr7 hlv7 hm hbgm
        obtain ⟨L1, hL1⟩ : ∃ L, ns (lvI 0 n c) b0 = L := ⟨_, rfl⟩
        obtain ⟨L2, hL2⟩ : ∃ L, ns lv7 m = L := ⟨_, rfl⟩
        rw [hL1, hL2] at HN H8
        clear hL1 hL2
        go_wp2_with (at_builtin; go_must (refine wpList_append_own _ rfl _ _ 29 rfl w2.heap.size 3 i0 _ 1 8 Try.underlying29 hi hz0 hz1 hz2 rfl (by decide) _ _ _ rfl HN.out.1 ⟨gl, 0, none⟩ m m L2 rfl HN.out.2.2.2 HN.out.2.1 HN.out.2.2.1 (by unfold maxLen; omega) (by have := H8.out.2.2; omega) (by have := HR.out.1.size; have := H8.out.1.size; omega) ?_); intro v' w8 hown hg _)
        go_roundw
        case rel =>
          refine ⟨k + 1, by go_num, hlt, ?_, ?_⟩
          · exact (HR.out.1.trans (H8.out.1.mono HR.out.1.size)).grown hg (by have := HR.out.1.size; have := H8.out.1.size; omega) (fun q e => (HR.out.2.lt q e).1)
          · rw [H8.out.2.1, show bg (k + 1) = b0 + m by have := H8.out.2.2; omega]; exact hown
        case measure => simp [RowKit.intOf]; omega
    · obtain rfl : P = k := by omega
      have hall := hP.all
      rw [hall] at hrow
      have HX := Lib.hid (And.intro hB (And.intro hB2 hrow))
      clear hB hB2 hrow
      go_wp2
      refine bodyPost_ret (results_tmp2 rfl _ _ _) rfl ?_
      exact ⟨_, rfl, bst HX.out.2.1 HX.out.1, ownsRow_base HX.out.2.2 HX.out.2.1.size⟩
set_option maxRecDepth 1000000 in
set_option maxHeartbeats 4000000 in
theorem levels_at1 (s : ByteArray) (w : World) (hs : s.size ≤ 4194304) (n : Nat) (hn : (C.clus (U.toks s.data.toList)).length = n) (c : Nat → Nat) (hc : B.kcl (U.toks s.data.toList) = c) :
    Calls Try.prog 18 #[.string s, .int .i64 1] w fun e w' => ∃ v, e = .returned (.tuple #[v, .int .i64 0]) ∧ Below w.heap.size w w' ∧ w'.ownsRow w.heap.size 3 1 v n (ns (lvI 1 n c) n) := by
  obtain ⟨i0, hi, hz0, hz1, hz2⟩ := info_parts Try.infoIn
  have hlen : (C.clus (U.toks s.data.toList)).length ≤ s.size := Nat.le_trans (C.clus_length_le _) toks_len
  rw [hn] at hlen
  have CL := Lib.hid (fun w => classes_any s w hs)
  rw [hn, show kcI (U.toks s.data.toList) = fun j => (c j : Int) by rw [← hc]; rfl] at CL
  have PA := Lib.hid (fun v w (h : Rd w v (fun j => (c j : Int)) n) => paragraphs_any n c v w (by omega) h)
  have HCL := Lib.hid (fun j => hc ▸ B.kcl_le (U.toks s.data.toList) j : ∀ j, 1 ≤ c j ∧ c j ≤ 17)
  clear hn hc
  go_enter Try.func18, Try.ntmps18
  go_wp2_with (first
    | (go_at_call 32; (with_reducible refine (CL.out _).mono ?_); rintro e w1 ⟨v1, rfl, hb1, hr1⟩)
    | (go_at_call 31; (with_reducible refine (PA.out _ _ (row_rd hr1)).mono ?_); rintro e w2 ⟨v2, P, bg, L, rfl, hb2, hr2, hP⟩; obtain ⟨A2, C2, rfl, hC2, hA2⟩ := ownN_form hr2)
    | fail)
  have hB2 := bst hb1 hb2
  have hPn := hP.le_n
  go_loopw [6, 20] (fun ov iv wx => ∃ k : Nat, iv = .int .i64 (k : Int) ∧ k ≤ P ∧ Below w2.heap.size w2 wx ∧ wx.ownsRow w2.heap.size 3 1 ov (bg k) (ns (lvI 1 n c) (bg k))) (fun _ iv _ => P - (RowKit.intOf iv).toNat)
  case atStart => exact ⟨0, rfl, Nat.zero_le _, Below.refl _ _, by rw [hP.zero]; exact World.ownsRow_nil _ _ _ _⟩
  case round =>
    obtain ⟨k, rfl, hk, hB, hrow⟩ := hrel
    by_cases hlt : k < P
    · obtain ⟨g2, rfl⟩ := hA2 (by omega)
      obtain ⟨u, hu, hRu⟩ := hP.items k hlt
      have hu0 : w2.cell? ⟨g2, k, none⟩ = some u := cells_at hr2 k u hu
      have huW : wr.cell? ⟨g2, k, none⟩ = some u := (World.cell?_of_block (hB.block _ (World.block_lt_of_cell? _ _ hu0))).trans hu0
      have hbgm := hP.mono k hlt
      obtain ⟨m, hm⟩ : ∃ m, bg (k + 1) - bg k = m := ⟨_, rfl⟩
      rw [hm] at hRu
      have hbn : bg (k + 1) ≤ n := hP.le (P - (k + 1)) (k + 1) (by omega)
      have HRU := Lib.hid hRu
      obtain ⟨UA, uc, rfl, huc, hu1⟩ := hRu
      have HR := Lib.hid (And.intro hB hrow)
      clear hB hrow hu1
      have hm4 : m ≤ 4194304 := by omega
      obtain ⟨cN, hcN⟩ : ∃ f : Nat → Nat, (fun j => c (bg k + j)) = f := ⟨_, rfl⟩
      obtain ⟨cc, hcc⟩ : ∃ f : Nat → Int, (fun j => (cN j : Int)) = f := ⟨_, rfl⟩
      rw [show (fun j => (c (bg k + j) : Int)) = cc by rw [← hcc, ← hcN]] at HRU
      have HCC := Lib.hid (And.intro hcN hcc)
      have CLN : Hid (∀ W', Below wr.heap.size wr W' → Calls Try.prog 33 #[.slice UA m uc] W' fun e w' => ∃ v', e = .returned v' ∧ Below W'.heap.size W' w' ∧ Cn W' w' cc m v') := Lib.hid (fun W' h => clone_any _ m cc W' hm4 (HRU.out.below (bst (bst hb2 HR.out.1) h)))
      have hmk : ∀ W : World, (Instr.makeSlice 29 (.int .i64 (m : Int)) (.int .i64 (m : Int))).run Try.prog W = .ok (.slice (some ⟨W.heap.size, 0, none⟩) m m) (W.alloc (.cells (madeCells (Value.int .i64 0).cells m) 3)) := fun W => by
        have h := run_make (P := Try.prog) W 29 3 i0 _ Try.underlying29 hi hz0 .i64 .i64 (m : Int) (m : Int) (by omega) (by omega) (by rw [hz2]; omega) (by omega)
        rw [h, hz1, Int.toNat_natCast, Nat.mul_one]
      have HMR := Lib.hid (fun W => make_rw W m)
      obtain ⟨MC, hMC⟩ : ∃ M, madeCells (Value.int .i64 0).cells m = M := ⟨_, rfl⟩
      rw [hMC] at hmk HMR
      clear hMC
      clear hcc hcN
      go_upto_region 8 with fail
      go_cut [9] (fun s9 wx => ∃ xb gl A3 c3, s9 = .pointer (some ⟨xb, 0, none⟩) ∧ P7 wr wx (.slice UA m uc) cc m xb gl A3 c3)
      case first =>
        go_region_held3 (fun W' => Below wr.heap.size wr W') (first | assumption | (repeat' (first | assumption | exact Below.refl _ _ | refine Below.drew ?_ | refine Below.alloc ?_ ?_ _ | exact Nat.le_refl _ | exact Below.size (by assumption) | (refine bst ?_ (by assumption)) | (simp; done))))
          ((first
            | (go_at_call 33; (with_reducible refine (CLN.out _ (by first | assumption | exact Below.drew (Below.refl _ _))).mono ?_); rintro e w3 ⟨v3, rfl, hb3, A3, c3, rfl, hc3, ho3, hn3⟩)
            | fail))
        all_goals (go_wp2_with fail; go_meet)
        · exact ⟨_, _, A3, c3, rfl, p7_a ((Below.refl _ _).drew) hb3 hc3 ho3 hn3 HMR.out⟩
        · exact ⟨_, _, A3, c3, rfl, p7_b (((Below.refl _ _).alloc (Nat.le_refl _) _).drew) hb3 (Nat.le_refl _) (HMR.out wr) hc3 ho3 hn3⟩
      case rest =>
        obtain ⟨xb, gl, A3, c3, rfl, h7⟩ := hcut
        obtain ⟨g, hg⟩ : ∃ g, wr.heap.size ≤ g ∧ g ≠ gl ∧ g ≠ xb ∧ (0 < m → A3 = some ⟨g, 0, none⟩ ∧ Rw wc g cc m) := by
          rcases Nat.eq_zero_or_pos m with h | h
          · have := h7.far
            exact ⟨xb + gl + 1, by omega, by omega, by omega, fun h' => absurd h' (by omega)⟩
          · obtain ⟨g, e, h1, h2, h3, h4⟩ := h7.cln h
            exact ⟨g, h1, h2, h3, fun _ => ⟨e, h4⟩⟩
        have MT := Lib.hid (match_any A3 g m c3 cN wc hm4 h7.cap (fun h => by rw [HCC.out.2]; exact hg.2.2.2 h))
        have x1 : wc.cell? ⟨xb, 1, none⟩ = some (.slice A3 m c3) := by simp [World.cell?, h7.box]
        have KX : Hid (∀ w', Fr (fun k => k ≠ g) wc w' → w'.heap[xb]? = some (.cells #[.slice UA m uc, .slice A3 m c3, .slice none 0 0, .slice (some ⟨gl, 0, none⟩) m m] 55 (0, 0)) ∧ w'.frozen? ⟨xb, 2, none⟩ = false ∧ w'.cell? ⟨xb, 2, none⟩ = some (.slice none 0 0)) := Lib.hid (fun w' h => by
          have hb : w'.heap[xb]? = _ := (h.block xb (Array.getElem?_eq_some_iff.1 h7.box).1 (Ne.symm hg.2.2.1)).trans h7.box
          exact ⟨hb, by simp [World.frozen?, hb], by simp [World.cell?, hb]⟩)
        have H7 := Lib.hid (And.intro h7 hg)
        clear h7 hg
        go_upto_region 9 with (go_at_call 34; (with_reducible refine MT.out.mono ?_); rintro e w4 ⟨gc, rfl, hf4, hgc, hr4, hch4⟩; obtain ⟨xb4, xf4, xc4⟩ := KX.out _ hf4)
        have hg := H7.out.2
        have h7 := H7.out.1
        have hcN17 : ∀ j, cN j ≤ 17 := fun j => by rw [← HCC.out.1]; exact (HCL.out _).2
        have hcl := B.clo_ok cN m
        have hPx := p7_px (ch := B.chg cN m) (cl := B.clo cN m) h7 hf4 hg.2.2.1 hg.2.1 hgc hr4 (fun h => ⟨(hg.2.2.2 h).1, hch4 h⟩)
        have hL5 : Rw (w4.setCell ⟨xb, 2, none⟩ (.slice (some ⟨gc, 0, none⟩) m m)) gl (fun _ => 0) m := (h7.zero.fr hf4 (Ne.symm hg.2.1)).other h7.far.2.1
        obtain ⟨w5, hw5⟩ : ∃ x, w4.setCell ⟨xb, 2, none⟩ (.slice (some ⟨gc, 0, none⟩) m m) = x := ⟨_, rfl⟩
        rw [hw5] at hPx hL5 ⊢
        have RW : Hid (Calls Try.prog 35 #[.pointer (some ⟨xb, 0, none⟩), .int .i64 0, .int .i64 (m : Int), .int .i64 1] w5 _) := Lib.hid (rowP_all m (B.chg cN m) (B.clo cN m) hm4 (hcl.ok hcN17) m xb gl _ _ _ 0 m 1 w5 _ (by omega) (Nat.zero_le _) (Nat.le_refl _) (fun x _ h => (hcl.ok hcN17).le x h) (by omega) hPx hL5)
        have H5 := Lib.hid (And.intro hPx hL5)
        have H4 := Lib.hid (And.intro hf4 (And.intro hr4 hgc))
        clear hPx hL5 hf4 hr4 hch4 hgc h7 hg hcl
        go_upto_region 10 with (go_at_call 35; (with_reducible refine RW.out.mono ?_); rintro e w6 ⟨⟨v6, rfl⟩, hf6, hr6⟩)
        have hB6 : Below wr.heap.size wr w6 := by
          have q7 := H7.out.1
          have qg := H7.out.2.1
          have s1 := q7.below.size
          have b4 : Below wr.heap.size wr w4 := q7.below.trans (H4.out.1.toBelow (fun k hk => by show k ≠ g; omega) s1)
          have b5 : Below wr.heap.size wr w5 := by rw [← hw5]; exact b4.setCell (p := ⟨xb, 2, none⟩) (by show wr.heap.size ≤ xb; exact q7.far.2.2) _
          exact b5.trans (hf6.toBelow (fun k hk => by show k ≠ gl; have := q7.far.1; omega) b5.size)
        have hB26 : Below w1.heap.size w1 w6 := bst (bst hb2 HR.out.1) hB6
        have hR6 : Rd w6 (.slice UA m uc) (fun j => (cN j : Int)) m := HCC.out.2 ▸ HRU.out.below hB26
        have hne6 : 0 < m → (Value.slice UA m uc).ownBlock ≠ some gl := fun h0 e => by
          obtain ⟨_, _, e1, _, e2⟩ := HRU.out
          cases e1
          obtain ⟨g0, o0, e3, e4⟩ := e2 h0
          cases e3
          have q1 : g0 < w1.heap.size := World.block_lt_of_cell? _ _ (e4 0 h0)
          have q2 : g0 = gl := Option.some.inj e
          have q3 := (bst hb2 HR.out.1).size
          have q4 := H7.out.1.far.1
          omega
        have hc6 : ∀ j, 1 ≤ cN j ∧ cN j ≤ 17 := fun j => by rw [← HCC.out.1]; exact HCL.out _
        have LS : Hid (Calls Try.prog 36 #[.pointer (some ⟨xb, 0, none⟩), .int .i64 1] w6 _) := Lib.hid (last_any m cN (B.chg cN m) (B.clo cN m) hm4 xb gl _ _ _ 1 w6 _ (H5.out.1.fr hf6) hR6 hne6 hc6 hr6)
        have H6 := Lib.hid (And.intro hB6 hf6)
        clear hf6 hr6 hB6 hB26 hR6 hne6 hc6
        go_upto_region 11 with (go_at_call 36; (with_reducible refine LS.out.mono ?_); rintro e w7 ⟨⟨v7, rfl⟩, hf7, hr7⟩)
        have hB7 : Below wr.heap.size wr w7 := H6.out.1.trans (hf7.toBelow (fun k hk => by show k ≠ gl; have := H7.out.1.far.1; omega) H6.out.1.size)
        have x3 : w7.cell? ⟨xb, 3, none⟩ = some (.slice (some ⟨gl, 0, none⟩) m m) := (H5.out.1.fr (H6.out.2.trans hf7)).cells.2.2.2
        obtain ⟨lv7, hlv7⟩ : ∃ l, lstI 1 cN m (fun k => if 0 ≤ k ∧ k < m then (B.lev (B.chg cN m) (B.clo cN m) m 0 m 1 k : Int) else 0) = l := ⟨_, rfl⟩
        have hNS : ns (lvI 1 n c) (bg (k + 1)) = ns (lvI 1 n c) (bg k) ++ ns lv7 m := by
          rw [← hlv7]
          exact ns_part hP hlt hm HCC.out.1 _ (fun j hj => if_pos ⟨Nat.zero_le _, hj⟩)
        rw [hlv7] at hr7
        have hrow7 := own_below HR.out.2 hB7
        have hnews : ∀ (j : Nat) (u : Value), (ns lv7 m)[j]? = some u → w7.cell? ((⟨gl, 0, none⟩ : Addr).add j) = some u := fun j u hu => by
          have hj : j < m := by have := (List.getElem?_eq_some_iff.1 hu).1; rwa [ns_length] at this
          rw [ns_at lv7 hj] at hu
          cases hu
          rw [Go.WideShapes.add_plain, Nat.zero_add]
          exact (hr7.at hj).1
        have hone : ∀ u ∈ ns lv7 m, u.oneCell' = true := by intro u hu; simp [ns] at hu; obtain ⟨_, _, rfl⟩ := hu; rfl
        have hlen7 : (ns lv7 m).length = m * 1 := by rw [ns_length, Nat.mul_one]
        obtain ⟨b0, hb0⟩ : ∃ b0, bg k = b0 := ⟨_, rfl⟩
        rw [hb0] at hrow7 hNS hm hbgm
        have hsz : b0 + m ≤ 4194304 := by omega
        have HN := Lib.hid (And.intro hrow7 (And.intro hnews (And.intro hone hlen7)))
        have H8 := Lib.hid (And.intro hB7 (And.intro hNS (And.intro hm hbgm)))
        clear hB7 hNS hrow7 hnews hone hlen7 hf7 hr7 hlv7 hm hbgm
        obtain ⟨L1, hL1⟩ : ∃ L, ns (lvI 1 n c) b0 = L := ⟨_, rfl⟩
        obtain ⟨L2, hL2⟩ : ∃ L, ns lv7 m = L := ⟨_, rfl⟩
        rw [hL1, hL2] at HN H8
        clear hL1 hL2
        go_wp2_with (at_builtin; go_must (refine wpList_append_own _ rfl _ _ 29 rfl w2.heap.size 3 i0 _ 1 8 Try.underlying29 hi hz0 hz1 hz2 rfl (by decide) _ _ _ rfl HN.out.1 ⟨gl, 0, none⟩ m m L2 rfl HN.out.2.2.2 HN.out.2.1 HN.out.2.2.1 (by unfold maxLen; omega) (by have := H8.out.2.2; omega) (by have := HR.out.1.size; have := H8.out.1.size; omega) ?_); intro v' w8 hown hg _)
        go_roundw
        case rel =>
          refine ⟨k + 1, by go_num, hlt, ?_, ?_⟩
          · exact (HR.out.1.trans (H8.out.1.mono HR.out.1.size)).grown hg (by have := HR.out.1.size; have := H8.out.1.size; omega) (fun q e => (HR.out.2.lt q e).1)
          · rw [H8.out.2.1, show bg (k + 1) = b0 + m by have := H8.out.2.2; omega]; exact hown
        case measure => simp [RowKit.intOf]; omega
    · obtain rfl : P = k := by omega
      have hall := hP.all
      rw [hall] at hrow
      have HX := Lib.hid (And.intro hB (And.intro hB2 hrow))
      clear hB hB2 hrow
      go_wp2
      refine bodyPost_ret (results_tmp2 rfl _ _ _) rfl ?_
      exact ⟨_, rfl, bst HX.out.2.1 HX.out.1, ownsRow_base HX.out.2.2 HX.out.2.1.size⟩
theorem levels_any (s : ByteArray) (base : Nat) (hbase : base = 0 ∨ base = 1) (w : World) (hs : s.size ≤ 4194304) (n : Nat) (hn : (C.clus (U.toks s.data.toList)).length = n) (c : Nat → Nat) (hc : B.kcl (U.toks s.data.toList) = c) :
    Calls Try.prog 18 #[.string s, .int .i64 (base : Int)] w fun e w' => ∃ v, e = .returned (.tuple #[v, .int .i64 0]) ∧ Below w.heap.size w w' ∧ w'.ownsRow w.heap.size 3 1 v n (ns (lvI base n c) n) := by
  rcases hbase with rfl | rfl
  · exact levels_at0 s w hs n hn c hc
  · exact levels_at1 s w hs n hn c hc
/-- Another base than 0 and 1 is told. -/
theorem levels_bad (s : ByteArray) (base : Int) (h0 : base ≠ 0) (h1 : base ≠ 1) (w : World) :
    Calls Try.prog 18 #[.string s, .int .i64 base] w fun e w' => e = .returned (.tuple #[.slice none 0 0, .int .i64 1]) ∧ w = w' := by
  have b0 : (base != 0) = true := by simp [h0]
  have b1 : (base != 1) = true := by simp [h1]
  go_enter Try.func18, Try.ntmps18
  go_wp2
  refine bodyPost_ret (results_tmp2 rfl _ _ _) rfl ?_
  exact ⟨rfl, rfl⟩
end Go.Proofs.Ytclblidfamabdaa

/- bidi.Base. -/
set_option linter.unusedVariables false
set_option linter.unusedSimpArgs false
namespace Go.Proofs.Ytclblidfamabdaa
open Go.RowKit Go.Shelf Go.Lib Go.BigFrame
attribute [local go_sem] Oper.semAt_some

/-- The first strong class of the first paragraph's row; 0: there is none. -/
def B.fst (c : Nat → Nat) (n : Nat) : Nat := B.stg c (B.clo c (B.pfin c n 0)) 0 (B.pfin c n 0)
def bseI (c : Nat → Nat) (n : Nat) (ow : Int) : Int := if B.fst c n = 0 then ow else stI (B.fst c n)
theorem B.stg_chg {c cl ch : Nat → Nat} {n : Nat} (h : B.Clo c cl ch n) (a b : Nat) : B.stg ch cl a b = B.stg c cl a b := by
  unfold B.stg; exact B.stgF_nz ch c h.ch _ _ _
theorem B.stgF_congr {c d : Nat → Nat} (it : Nat → Nat) : ∀ f n, (∀ j, n ≤ j → j < n + f → c (it j) = d (it j)) → B.stgF c it f n = B.stgF d it f n := by
  intro f
  induction f with
  | zero => intro n _; rfl
  | succ f ih =>
    intro n h
    unfold B.stgF
    rw [h n (Nat.le_refl _) (by omega), ih (n + 1) (fun j h1 h2 => h j (by omega) (by omega))]

set_option maxRecDepth 1000000 in
set_option maxHeartbeats 4000000 in
theorem base_any (s : ByteArray) (ow : Int) (w : World) (hs : s.size ≤ 4194304) (n : Nat) (hn : (C.clus (U.toks s.data.toList)).length = n) (c : Nat → Nat) (hc : B.kcl (U.toks s.data.toList) = c) :
    Calls Try.prog 21 #[.string s, .int .i64 ow] w fun e w' => e = .returned (.int .i64 (bseI c n ow)) ∧ Below w.heap.size w w' := by
  have hlen : (C.clus (U.toks s.data.toList)).length ≤ s.size := Nat.le_trans (C.clus_length_le _) toks_len
  rw [hn] at hlen
  have CL := Lib.hid (fun w => classes_any s w hs)
  rw [hn, show kcI (U.toks s.data.toList) = fun j => (c j : Int) by rw [← hc]; rfl] at CL
  have PA := Lib.hid (fun v w (h : Rd w v (fun j => (c j : Int)) n) => paragraphs_any n c v w (by omega) h)
  have HCL := Lib.hid (fun j => hc ▸ B.kcl_le (U.toks s.data.toList) j : ∀ j, 1 ≤ c j ∧ c j ≤ 17)
  obtain ⟨R, hR⟩ : ∃ r, bseI c n ow = r := ⟨_, rfl⟩
  have HRI := Lib.hid hR
  rw [hR]
  clear hn hc hR
  go_enter Try.func21, Try.ntmps21
  go_upto_region 2 with (first
      | (go_at_call 32; (with_reducible refine (CL.out _).mono ?_); rintro e w1 ⟨v1, rfl, hb1, hr1⟩)
      | (go_at_call 31; (with_reducible refine (PA.out _ _ (row_rd hr1)).mono ?_); rintro e w2 ⟨v2, P, bg, L, rfl, hb2, hr2, hP⟩; obtain ⟨A2, C2, rfl, hC2, hA2⟩ := ownN_form hr2; obtain ⟨g2, rfl⟩ := hA2 hP.pos; obtain ⟨u, hu, hRu⟩ := hP.items 0 hP.pos; have hu0 := cells_at hr2 0 u hu; have hpp := hP.pos; have hPm := hP.le (P - 1) (0 + 1) (by omega); obtain ⟨m, hm⟩ : ∃ m, bg (0 + 1) - bg 0 = m := ⟨_, rfl⟩; rw [hm] at hRu; have hm4 : m ≤ 4194304 := (by omega); have hRu2 := Lib.hid hRu; have CLN := Lib.hid (clone_any u m _ w2 hm4 (hRu.below hb2)); obtain ⟨UA, uc, rfl, huc, hu1⟩ := hRu; have HM := Lib.hid (And.intro hm (And.intro hu hP)); clear hu1 hu hP)
      | (go_at_call 33; (with_reducible refine CLN.out.mono ?_); rintro e w3 ⟨v3, rfl, hb3, A3, c3, rfl, hc3, ho3, hn3⟩)
      | fail)
  obtain ⟨hm, hu, hP⟩ := HM.out
  have hz := hP.zero
  have hcap : m ≤ c3 := hc3
  obtain ⟨cN, hcN⟩ : ∃ f : Nat → Nat, (fun j => c (bg 0 + j)) = f := ⟨_, rfl⟩
  have hcN0 : cN = c := by rw [← hcN]; funext j; show c (bg 0 + j) = c j; rw [hz, Nat.zero_add]
  have hpf : B.pfin c n 0 = m := by have := hP.fin 0 hP.pos; rw [hz] at this; rw [this, ← hm, hz]; omega
  have hcc : (fun j => (c (bg 0 + j) : Int)) = fun j => (c j : Int) := by funext j; rw [hz, Nat.zero_add]
  rw [hcc] at hn3
  obtain ⟨g, hg⟩ : ∃ g, w2.heap.size ≤ g ∧ (0 < m → A3 = some ⟨g, 0, none⟩ ∧ Rw w3 g (fun j => (c j : Int)) m) := by
    rcases Nat.eq_zero_or_pos m with h | h
    · exact ⟨w2.heap.size, Nat.le_refl _, fun h' => absurd h' (by omega)⟩
    · obtain ⟨g, e, h1, h2⟩ := hn3 h
      exact ⟨g, h1, fun _ => ⟨e, h2⟩⟩
  have MT := Lib.hid (match_any A3 g m c3 c w3 hm4 hcap (fun h => hg.2 h))
  have HB := Lib.hid (And.intro (bst (bst hb1 hb2) hb3) (And.intro hg.1 (And.intro hpf (And.intro hg.2 (bst hb1 hb2).size))))
  have HB3 := Lib.hid hb3
  clear hm hu hP hz hcN hcN0 hpf hcc hn3 ho3 hc3 hg hb3
  go_upto_region 3 with (go_at_call 34; (with_reducible refine MT.out.mono ?_); rintro e w4 ⟨gc, rfl, hf4, hgc, hr4, hch4⟩)
  have hcl := B.clo_ok c m
  have hok := hcl.ok (fun j => (HCL.out j).2)
  have hcnt := B.cnt_le hok.up 0 m
  have hspec := B.cnt_spec hok.up 0 m
  have hclR : Rd w4 (.slice (some ⟨gc, 0, none⟩) m m) (clI (B.clo c m)) m := hr4.rd m (Nat.le_refl _)
  have hchR : Rd w4 (.slice A3 m c3) (fun j => (B.chg c m j : Int)) m := ⟨A3, c3, rfl, hcap, fun h => by
    obtain ⟨e1, _⟩ := HB.out.2.2.2.1 h
    exact ⟨g, 0, e1, fun j hj => by rw [Nat.zero_add]; exact ((hch4 h).at hj).1⟩⟩
  have RO : Hid (Calls Try.prog 43 #[.int .i64 0, .int .i64 (m : Int), .slice (some ⟨gc, 0, none⟩) m m] w4 _) := Lib.hid (row_any 0 m m _ (B.clo c m) w4 hm4 (Nat.le_refl _) (Nat.zero_le _) hok.up hok.le hclR)
  have SA := Lib.hid (fun (W' : World) (rv : Value) (h : Rd W' rv (itI (B.clo c m) 0) (B.cnt (B.clo c m) 0 m)) (h2 : Rd W' (.slice A3 m c3) (fun j => (B.chg c m j : Int)) m) => strong_any rv _ (B.itm (B.clo c m) 0) (B.chg c m) _ m W' (by omega) hm4 h h2 (fun j hj => by have := (hspec j).1 hj; omega))
  rw [show B.stgF (B.chg c m) (B.itm (B.clo c m) 0) (B.cnt (B.clo c m) 0 m) 0 = B.stg (B.chg c m) (B.clo c m) 0 m from rfl, B.stg_chg hcl] at SA
  have hsv : B.stg c (B.clo c m) 0 m = 0 ∨ B.stg c (B.clo c m) 0 m = 17 ∨ B.stg c (B.clo c m) 0 m = 15 ∨ B.stg c (B.clo c m) 0 m = 14 := stg_vals _ _ _ _
  have hbse : R = if B.stg c (B.clo c m) 0 m = 0 then ow else stI (B.stg c (B.clo c m) 0 m) := by rw [← HRI.out]; unfold bseI B.fst; rw [HB.out.2.2.1]
  have hB4 : Below w.heap.size w w4 := HB.out.1.trans (hf4.toBelow (fun k hk => by show k ≠ g; have := HB.out.2.1; have := HB.out.2.2.2.2; omega) (by have := HB.out.1.size; exact this))
  obtain ⟨X, hX⟩ : ∃ X, B.stg c (B.clo c m) 0 m = X := ⟨_, rfl⟩
  rw [hX] at SA hsv hbse
  obtain ⟨cnt, hcn⟩ : ∃ k, B.cnt (B.clo c m) 0 m = k := ⟨_, rfl⟩
  rw [hcn] at RO SA hcnt
  have HBS := Lib.hid hbse
  have HRR := Lib.hid (And.intro hB4 hchR)
  clear hX hbse hB4 hchR hclR hok hspec hcl hf4 hr4 hch4 hcn
  rcases hsv with rfl | rfl | rfl | rfl
  all_goals
    go_wp2_with (first
      | (go_at_call 43; (with_reducible refine RO.out.mono ?_); rintro e w5 ⟨v5, rfl, hb5, hr5⟩)
      | (go_at_call 42; (with_reducible refine (SA.out _ _ (row_rd hr5) (HRR.out.2.below hb5)).mono ?_); rintro e w6 ⟨rfl, rfl⟩)
      | fail)
    go_ret
    exact ⟨rC_int (by rw [HBS.out]; rfl), bst HRR.out.1 hb5⟩
end Go.Proofs.Ytclblidfamabdaa
