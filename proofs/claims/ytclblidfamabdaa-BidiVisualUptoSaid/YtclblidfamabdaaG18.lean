/- The document's lay: the levels of a row, and of the isolates in it. -/
import Derived.Test.YtclblidfamabdaaG17
import Derived.Test.YtclblidfamabdaaBdRe
import Derived.Test.YtclblidfamabdaaG15
import Derived.Test.YtclblidfamabdaaG5
import Derived.Test.YtclblidfamabdaaBdRm
import Derived.Test.YtclblidfamabdaaG16
import Derived.Test.YtclblidfamabdaaG8
set_option linter.unusedVariables false
set_option linter.unusedSimpArgs false
namespace Go.Proofs.Ytclblidfamabdaa
open Go.RowKit Go.Shelf Go.Lib Go.BigFrame
attribute [local go_sem] Oper.semAt_some

section
variable {P : Program} {w : World}
theorem step_append_b {ops : Array Oper} {o : Oper} {a : Act} {K : Act → World → Prop} {Q : Exit → Act → World → Prop} {E : Prop} {R : Value → World → Prop} (hgd : o.guard = none) (s x : Operand) (t : TypeId)
    (ho : o.op = .call { callee := .builtin .append, args := #[s, x], argTypes := #[t, t] }) (v xv : Value) (hs : a.eval s = v) (hx : a.eval x = xv)
    (hr : ∃ v' w', (Builtin.append_ #[t, t] o.type #[v, xv]).run P w = .ok v' w' ∧ R v' w') (h : ∀ v' w', R v' w' → K (a.put o.dst v') w') :
    if Region.wanted o (yielded ops a.tmps) = true then Oper.wp P o a w K Q else E := by
  have hw : Region.wanted o (yielded ops a.tmps) = true := by simp [Region.wanted, hgd]
  rw [if_pos hw]
  obtain ⟨v', w', hrun, r1⟩ := hr
  unfold Oper.wp
  simp [execOp, ho, resolve, invoke, builtin, hs, hx, hrun, Result.andThen]
  exact h _ _ r1
end

theorem new1 (W : World) (v : Value) : (W.alloc (.cells #[v] 3)).cell? ⟨W.heap.size, 0, none⟩ = some v := by
  have h := World.alloc_heap_new W (.cells #[v] 3)
  simp only [World.cell?, h]
  rfl
theorem new1d (W : World) (v : Value) : (W.alloc (.cells #[v] 3)).drew.cell? ⟨W.heap.size, 0, none⟩ = some v := new1 W v
/-- A paragraph of the document beside a row that is written. -/
structure Pq (w : World) (pb N gl : Nat) (cv lv : Value) (c cl : Nat → Nat) : Prop where
  c0 : w.cell? ⟨pb, 0, none⟩ = some cv
  c1 : w.cell? ⟨pb, 1, none⟩ = some lv
  rc : Rd w cv (fun j => (c j : Int)) N
  rl : Rd w lv (fun j => (cl j : Int)) N
  ne : pb ≠ gl ∧ (0 < N → cv.ownBlock ≠ some gl) ∧ lv.ownBlock ≠ some gl
theorem Rd.fr1 {S : Nat → Prop} {w w' : World} {v : Value} {c : Nat → Int} {n : Nat} (h : Rd w v c n) (hf : Fr S w w') (hS : 0 < n → ∀ q, v.ownBlock = some q → q < w.heap.size → S q) : Rd w' v c n := by
  rcases Nat.eq_zero_or_pos n with h0 | h0
  · obtain ⟨A, cap, rfl, hle, _⟩ := h
    exact ⟨A, cap, rfl, hle, fun hn => absurd hn (by omega)⟩
  · exact h.fr hf (hS h0)
theorem Pq.fr {w w' : World} {pb N gl : Nat} {cv lv : Value} {c cl : Nat → Nat} (h : Pq w pb N gl cv lv c cl) (hf : Fr (fun k => k ≠ gl) w w') : Pq w' pb N gl cv lv c cl :=
  ⟨hf.cell h.c0 h.ne.1, hf.cell h.c1 h.ne.1, h.rc.fr1 hf (fun h0 q e _ e2 => h.ne.2.1 h0 (by rw [e, e2])), h.rl.fr hf (fun q e _ e2 => h.ne.2.2 (by rw [e, e2])), h.ne⟩
theorem Pq.pg {w : World} {pb N gl : Nat} {cv lv : Value} {c cl : Nat → Nat} (h : Pq w pb N gl cv lv c cl) : Pg w pb N c cl := ⟨⟨cv, h.c0, h.rc⟩, ⟨lv, h.c1, h.rl⟩⟩
theorem Pq.below {w w' : World} {pb N gl : Nat} {cv lv : Value} {c cl : Nat → Nat} (h : Pq w pb N gl cv lv c cl) (hb : Below w.heap.size w w') : Pq w' pb N gl cv lv c cl := h.fr (Fr.of_below hb (fun k hk _ => hk))

/-- The contract of lay, of so many places at most. -/
def LayP (N : Nat) (c cl : Nat → Nat) (f : Nat) : Prop := ∀ (pb gl : Nat) (cv clv : Value) (frm tz e : Nat) (W : World) (lv : Nat → Int), tz - frm ≤ f → frm ≤ tz → tz ≤ N → (∀ x, frm ≤ x → x < tz → cl x ≤ tz) → e + 2 * (tz - frm) ≤ 16777216 → Pq W pb N gl cv clv c cl → Rw W gl lv N →
  Calls Try.prog 40 #[.pointer (some ⟨pb, 0, none⟩), .slice (some ⟨gl, 0, none⟩) N N, .int .i64 (frm : Int), .int .i64 (tz : Int), .int .i64 (e : Int)] W fun en w' => (∃ v, en = .returned v) ∧ Fr (fun k => k ≠ gl) W w' ∧ Rw w' gl (fun k => if frm ≤ k ∧ k < tz then (B.lev c cl f frm tz e k : Int) else lv k) N

set_option maxRecDepth 1000000 in
set_option maxHeartbeats 16000000 in
theorem lay_core (N : Nat) (c cl : Nat → Nat) (hN : N ≤ 4194304) (hK : ClOk N c cl) (f : Nat) (pb gl : Nat) (cv clv : Value) (frm tz e : Nat) (W : World) (lv : Nat → Int) (hP : frm < tz → LayP N c cl f) (hf : tz - frm ≤ f + 1) (hft : frm ≤ tz) (htN : tz ≤ N) (hcr : ∀ x, frm ≤ x → x < tz → cl x ≤ tz) (he : e + 2 * (tz - frm) ≤ 16777216) (hX : Pq W pb N gl cv clv c cl) (hL : Rw W gl lv N) :
    Calls Try.prog 40 #[.pointer (some ⟨pb, 0, none⟩), .slice (some ⟨gl, 0, none⟩) N N, .int .i64 (frm : Int), .int .i64 (tz : Int), .int .i64 (e : Int)] W fun en w' => (∃ v, en = .returned v) ∧ Fr (fun k => k ≠ gl) W w' ∧ Rw w' gl (fun k => if frm ≤ k ∧ k < tz then (B.lev c cl (f + 1) frm tz e k : Int) else lv k) N := by
  obtain ⟨i0, hi, hz0, hz1, hz2⟩ := info_parts Try.infoIn
  have RO := Lib.hid (rowR_any frm tz N pb c cl W hN htN (by omega) hK.up hK.le hX.pg)
  have hcnt := B.cnt_le hK.up frm tz
  have hspec := B.cnt_spec hK.up frm tz
  have hend := itm_end cl hK.up frm tz hft hcr
  have HLEV := Lib.hid (And.intro (lev_item c cl hK.up f frm tz e) (lev_in c cl hK.up f frm tz e))
  obtain ⟨cnt, hcn⟩ : ∃ c, B.cnt cl frm tz = c := ⟨_, rfl⟩
  rw [hcn] at RO hcnt hspec hend HLEV
  have HIT : Hid (∀ n, n < cnt → B.itm cl frm n < N ∧ frm ≤ B.itm cl frm n ∧ B.itm cl frm n < tz) := Lib.hid (fun n h => by
    have h1 := (hspec n).1 h
    have h2 := B.itm_ge hK.up frm n
    omega)
  have HX := Lib.hid (And.intro hX hL)
  have HK := Lib.hid hK
  have HCR := Lib.hid hcr
  have HP := Lib.hid hP
  have HEN := Lib.hid hend
  have SDA := Lib.hid (fun w => side_any e w)
  obtain ⟨sd, hsd⟩ : ∃ s, B.sid e = s := ⟨_, rfl⟩
  rw [hsd] at SDA
  have HSD := Lib.hid hsd
  have hside : sd = 15 ∨ sd = 17 := by rw [← hsd]; unfold B.sid; split <;> omega
  have HSIDE := Lib.hid hside
  obtain ⟨lr, hlr⟩ : ∃ l : Nat → Nat, (fun n => c (B.itm cl frm n)) = l := ⟨_, rfl⟩
  have HLR := Lib.hid hlr
  clear hX hL hK hcr hP hspec hend hsd hside hcn hlr
  go_enter Try.func40, Try.ntmps40
  go_upto_block 0 with (go_at_call 45; (with_reducible refine RO.out.mono ?_); rintro en w1 ⟨vo, rfl, hb1, hr1⟩)
  obtain ⟨OA, oc, rfl, hoc, hOA⟩ := ownN_form hr1
  have hrd := row_rd hr1
  have hWs := hb1.size
  have hrl := hr1.lt
  have KF : Hid (∀ wx, Below w1.heap.size w1 wx → Pq wx pb N gl cv clv c cl ∧ Rw wx gl lv N ∧ Rd wx (.slice OA cnt oc) (itI cl frm) cnt) := Lib.hid (fun wx h => by
    have hb : Below W.heap.size W wx := hb1.trans (h.mono hWs)
    exact ⟨HX.out.1.below hb, HX.out.2.fr (Fr.of_below (S := fun k => k < W.heap.size) hb (fun k _ h => h)) HX.out.2.lt, hrd.below h⟩)
  have HOA := Lib.hid hOA
  have HB1 := Lib.hid hb1
  have HRL := Lib.hid hrl
  have hgl := HX.out.2.lt
  clear hb1 hr1 hOA hrd hrl RO
  go_cut [11, 12] (fun v11 _ wx => Below w1.heap.size w1 wx ∧ wx.ownsRow w1.heap.size 3 1 v11 cnt (ns (fun n => (lr n : Int)) cnt))
  case first =>
    go_wp2
    go_loopw [11, 12] (fun v11 nv wx => ∃ n : Nat, nv = .int .i64 (n : Int) ∧ n ≤ cnt ∧ Below w1.heap.size w1 wx ∧ wx.ownsRow w1.heap.size 3 1 v11 n (ns (fun n => (lr n : Int)) n)) (fun _ nv _ => cnt - (RowKit.intOf nv).toNat)
    case atStart => exact ⟨0, rfl, Nat.zero_le _, Below.refl _ _, World.ownsRow_nil _ _ _ _⟩
    case round =>
      obtain ⟨n, rfl, hn, hB, hrow⟩ := hrel
      have hBs := hB.size
      by_cases hlt : n < cnt
      · obtain ⟨k1, k2, k3⟩ := KF.out _ hB
        obtain ⟨og, rfl⟩ := HOA.out (by omega)
        obtain ⟨CA, cc, rfl, hcc, hc1⟩ := k1.rc
        have hiN := (HIT.out n hlt).1
        obtain ⟨cg, co, rfl, hcg⟩ := hc1 (by omega)
        obtain ⟨i, hii⟩ : ∃ i, B.itm cl frm n = i := ⟨_, rfl⟩
        obtain ⟨x, hx⟩ : ∃ x, lr n = x := ⟨_, rfl⟩
        have hcx : c i = x := by rw [← hii, ← hx, ← HLR.out]
        rw [hii] at hiN
        have KS : Hid (∀ wx, Below w1.heap.size w1 wx → wx.cell? ⟨pb, 0, none⟩ = some (.slice (some ⟨cg, co, none⟩) N cc) ∧ wx.cell? ⟨og, n, none⟩ = some (.int .i64 (i : Int)) ∧ wx.cell? ⟨cg, co + i, none⟩ = some (.int .i64 (x : Int)) ∧ Below w1.heap.size w1 wx) := Lib.hid (fun wx h => by
          obtain ⟨j1, j2, j3⟩ := KF.out wx h
          obtain ⟨_, _, ho, _, ho2⟩ := j3
          cases ho
          obtain ⟨_, _, ho3, ho4⟩ := ho2 (by omega)
          cases ho3
          have o0 := ho4 n hlt
          rw [Nat.zero_add] at o0
          obtain ⟨_, _, hq, _, hq2⟩ := j1.rc
          cases hq
          obtain ⟨_, _, hq3, hq4⟩ := hq2 (by omega)
          cases hq3
          have c0 := hq4 i hiN
          exact ⟨j1.c0, by rw [o0]; unfold itI; rw [hii], by rw [← hcx]; exact c0, h⟩)
        have AP : Hid (∀ wx q, wx.ownsRow w1.heap.size 3 1 u11 n (ns (fun n => (lr n : Int)) n) → wx.cell? ⟨q, 0, none⟩ = some (.int .i64 (x : Int)) → Below w1.heap.size w1 wx → ∃ v' w', (Builtin.append_ #[29, 29] 29 #[u11, .slice (some ⟨q, 0, none⟩) 1 1]).run Try.prog wx = .ok v' w' ∧ (w'.ownsRow w1.heap.size 3 1 v' (n + 1) (ns (fun n => (lr n : Int)) (n + 1)) ∧ Below w1.heap.size w1 w')) := Lib.hid (fun wx q h1 h2 h3 => by
          obtain ⟨v', w', r1, r2, r3, _, _⟩ := run_append_own_at (P := Try.prog) (w := wx) w1.heap.size 29 29 3 i0 _ 1 8 Try.underlying29 hi hz0 hz1 hz2 rfl (by decide) u11 n _ h1 ⟨q, 0, none⟩ 1 1 [.int .i64 (x : Int)] rfl (fun j u hu => by
            cases j with
            | zero => cases hu; rw [Go.WideShapes.add_plain]; exact h2
            | succ j => simp at hu) (by simp [Value.oneCell']) (by unfold maxLen; omega) (by omega) h3.size
          refine ⟨v', w', r1, ?_, h3.grown r3 h3.size (fun q e => (h1.lt q e).1)⟩
          rw [ns_succ, hx]; exact r2)
        have HRW := Lib.hid hrow
        have HBW := Lib.hid hB
        clear k1 k2 k3 hc1 hcg hii hx hcx hrow hB
        go_wp2
        go_region_held3 (fun wx => wx.cell? ⟨pb, 0, none⟩ = some (.slice (some ⟨cg, co, none⟩) N cc) ∧ wx.cell? ⟨og, n, none⟩ = some (.int .i64 (i : Int)) ∧ wx.cell? ⟨cg, co + i, none⟩ = some (.int .i64 (x : Int)) ∧ Below w1.heap.size w1 wx)
          ((refine KS.out _ ?_; (repeat' (first | assumption | exact HBW.out | refine Below.drew ?_ | refine Below.alloc ?_ ?_ _ | exact And.right (by assumption) | exact Below.size (by assumption) | (simp; done) | (simp; omega)))))
          ((refine step_append_b (R := fun v' w' => w'.ownsRow w1.heap.size 3 1 v' (n + 1) (ns (fun n => (lr n : Int)) (n + 1)) ∧ Below w1.heap.size w1 w') (by rfl) (.tmp 28) (.tmp 39) _ (by rfl) _ _ (by rfl) (by rfl) (AP.out _ _ (by first | exact (ownsRow_drew HRW.out).alloc _ | exact HRW.out.alloc _ | exact ownsRow_drew (HRW.out.alloc _)) (by first | exact new1 _ _ | exact new1d _ _) (by (repeat' (first | assumption | exact HBW.out | refine Below.drew ?_ | refine Below.alloc ?_ ?_ _ | exact And.right (by assumption) | exact Below.size (by assumption) | (simp; done) | (simp; omega))))) ?_; rintro v1 w2 ⟨ho2, hb2⟩))
        go_wp2
        go_roundw
        case rel => exact ⟨n + 1, by go_num, hlt, hb2, ho2⟩
        case measure => simp [RowKit.intOf]; omega
      · obtain rfl : cnt = n := by omega
        go_wp2
        go_meet
        exact ⟨hB, hrow⟩
  case rest =>
    obtain ⟨hBc, hrc⟩ := hcut
    obtain ⟨wL, hwL⟩ : ∃ x, x = wc := ⟨_, rfl⟩
    subst hwL
    obtain ⟨A2, c2, g2, rfl, hc2, hg2, hgb2⟩ := row_ids hrc
    have HBc := Lib.hid hBc
    have WKc := Lib.hid (weakR_any A2 g2 cnt c2 sd lr wL (by omega) hc2 HSIDE.out hg2)
    obtain ⟨L1, hL1⟩ : ∃ l, B.v3 (B.v2 sd (B.v1 sd lr)) = l := ⟨_, rfl⟩
    rw [hL1] at WKc
    have NUc := Lib.hid (fun W' h => numbersR_any A2 g2 cnt c2 sd L1 W' (by omega) hc2 h)
    obtain ⟨L2, hL2⟩ : ∃ l, B.v7 sd (B.v6 (B.v5 cnt (B.v4 cnt L1))) = l := ⟨_, rfl⟩
    rw [hL2] at NUc
    have NEc := Lib.hid (fun W' h => neutralsR_any A2 g2 cnt c2 sd L2 W' (by omega) hc2 HSIDE.out h)
    obtain ⟨L3, hL3⟩ : ∃ l, B.v8 sd cnt L2 = l := ⟨_, rfl⟩
    rw [hL3] at NEc
    have HL3 := Lib.hid (show B.res sd cnt (fun n => c (B.itm cl frm n)) = L3 by rw [HLR.out, ← hL3, ← hL2, ← hL1]; rfl)
    clear hrc hg2 hL1 hL2 hL3 hBc
    have hgl2 : gl < w1.heap.size := by omega
    go_upto_region 7 with (first
      | (go_at_call 66; (with_reducible refine (SDA.out _).mono ?_); rintro en ws ⟨rfl, rfl⟩)
      | (go_at_call 65; (with_reducible refine WKc.out.mono ?_); rintro en w2 ⟨rfl, hW2⟩; have HW2 := Lib.hid hW2; clear hW2)
      | (go_at_call 64; (with_reducible refine (NUc.out _ HW2.out.row).mono ?_); rintro en w3 ⟨rfl, hW3⟩; have HW3 := Lib.hid hW3; clear hW3)
      | (go_at_call 63; (with_reducible refine (NEc.out _ HW3.out.row).mono ?_); rintro en w4 ⟨rfl, hW4⟩; have HW4 := Lib.hid hW4; clear hW4)
      | fail)
    have hB4 : Below w1.heap.size w1 w4 := HBc.out.trans (((HW2.out.fr.trans HW3.out.fr).trans HW4.out.fr).toBelow (fun k hk => by show k ≠ g2; omega) HBc.out.size)
    have HB4 := Lib.hid hB4
    obtain ⟨q1, q2, q3⟩ := KF.out _ hB4
    have hobl : ∀ q, (Value.slice OA cnt oc).ownBlock = some q → q ≠ gl := fun q hq => by have := (HRL.out q hq).1; omega
    have KG : Hid (∀ wx, Fr (fun k => k ≠ gl) w4 wx → Pq wx pb N gl cv clv c cl ∧ Rd wx (.slice OA cnt oc) (itI cl frm) cnt ∧ (0 < cnt → A2 = some ⟨g2, 0, none⟩ ∧ Rw wx g2 (fun n => (L3 n : Int)) cnt)) := Lib.hid (fun wx h => ⟨q1.fr h, q3.fr h (fun q e _ => hobl q e), fun h0 => ⟨(HW4.out.row h0).1, (HW4.out.row h0).2.fr h (by show g2 ≠ gl; omega)⟩⟩)
    have H4 := Lib.hid q2
    obtain ⟨LV, hLV⟩ : ∃ L : Nat → Nat, (fun n => B.lvl e (L3 n)) = L := ⟨_, rfl⟩
    have HLV := Lib.hid hLV
    have HLI : Hid (∀ n, n < cnt → B.lev c cl (f + 1) frm tz e (B.itm cl frm n) = LV n) := Lib.hid (fun n _ => by rw [HLEV.out.1 n, ← HLV.out, HSD.out, HL3.out])
    have HLN := Lib.hid HLEV.out.2
    obtain ⟨LEV, hLEV⟩ : ∃ L : Nat → Nat, B.lev c cl (f + 1) frm tz e = L := ⟨_, rfl⟩
    rw [hLEV] at HLI HLN
    have HLEV2 := Lib.hid hLEV
    clear hLEV HLEV hLV q1 q2 q3 hobl hB4 WKc NUc NEc KF
    obtain ⟨pe, hpe⟩ : ∃ b, (((e : Int) % 2) == 1) = b := ⟨_, rfl⟩
    have hpe0 : (((e : Int) % 2) == 0) = !pe := by
      rw [← hpe]
      by_cases h : e % 2 = 1
      · have : (e : Int) % 2 = 1 := by omega
        rw [this]; rfl
      · have : (e : Int) % 2 = 0 := by omega
        rw [this]; rfl
    have HPE := Lib.hid (show (pe = true ∧ e % 2 = 1) ∨ (pe = false ∧ ¬ e % 2 = 1) by
      rw [← hpe]
      by_cases h : e % 2 = 1
      · left; refine ⟨?_, h⟩; simp; omega
      · right; refine ⟨?_, h⟩; simp; omega)
    go_wp2
    go_loopw [13] (fun nv wx => ∃ n : Nat, nv = .int .i64 (n : Int) ∧ n ≤ cnt ∧ Fr (fun k => k ≠ gl) w4 wx ∧ Rw wx gl (lv2 LEV frm (B.itm cl frm n) lv) N) (fun nv _ => cnt - (RowKit.intOf nv).toNat)
    case atStart => exact ⟨0, rfl, Nat.zero_le _, Fr.refl _ _, H4.out.congr (fun j _ => by unfold lv2; rw [if_neg (fun h => by have h0 : B.itm cl frm 0 = frm := rfl; omega)])⟩
    case round =>
      obtain ⟨n, rfl, hn, hF, hRw⟩ := hrel
      by_cases hlt : n < cnt
      · obtain ⟨k1, k2, k3⟩ := KG.out _ hF
        obtain ⟨hA2, k4⟩ := k3 (by omega)
        subst hA2
        obtain ⟨og, rfl⟩ := HOA.out (by omega)
        obtain ⟨_, _, ho, _, ho2⟩ := k2
        cases ho
        obtain ⟨_, _, ho3, ho4⟩ := ho2 (by omega)
        cases ho3
        have o0 := ho4 n hlt
        rw [Nat.zero_add] at o0
        obtain ⟨hiN, hif, hit⟩ := HIT.out n hlt
        obtain ⟨i, hii⟩ : ∃ i, B.itm cl frm n = i := ⟨_, rfl⟩
        have o1 : wr.cell? ⟨og, n, none⟩ = some (.int .i64 (i : Int)) := by rw [o0]; unfold itI; rw [hii]
        have hLi := HLI.out n hlt
        have hnx : B.itm cl frm (n + 1) = B.nx cl i := by rw [← hii]; rfl
        have hin : ∀ k, i < k → k < B.nx cl i → LEV k = B.lev c cl f (i + 1) (cl i) (B.inn c cl e i) k := fun k h1 h2 => by
          have := HLN.out n k (by rw [hii]; exact h1) (by rw [hnx]; exact h2)
          rw [hii] at this
          exact this
        have hci := HCR.out i (by omega) (by omega)
        rw [hii] at hiN hif hit hLi hRw
        have hLVn : LV n = B.lvl e (L3 n) := by rw [← HLV.out]
        obtain ⟨x, hx⟩ : ∃ x, L3 n = x := ⟨_, rfl⟩
        rw [hx] at hLVn
        have f0 := (hRw.at hiN).2
        obtain ⟨u0, g0⟩ : ∃ u, wr.cell? ⟨gl, i, none⟩ = some u := ⟨_, (hRw.at hiN).1⟩
        have HF := Lib.hid (And.intro hF hRw)
        have HNX := Lib.hid hnx
        have HLL := Lib.hid (And.intro hLi hin)
        have HCI := Lib.hid hci
        have HLVn := Lib.hid hLVn
        obtain ⟨W1, hW1⟩ : ∃ x, x = wr.setCell ⟨gl, i, none⟩ (.int .i64 (e : Int)) := ⟨_, rfl⟩
        have hF1 : Fr (fun k => k ≠ gl) w4 W1 := by rw [hW1]; exact hF.setCell _ _ (fun _ h => h rfl)
        have hRw1 : Rw W1 gl (upd (lv2 LEV frm i lv) i (e : Int)) N := by rw [hW1]; exact hRw.set i _
        have r0 : W1.cell? ⟨g2, n, none⟩ = some (.int .i64 (x : Int)) := by
          have := (((KG.out _ hF1).2.2 (by omega)).2.at hlt).1
          rwa [hx] at this
        have f1 := (hRw1.at hiN).2
        obtain ⟨u1, g1⟩ : ∃ u, W1.cell? ⟨gl, i, none⟩ = some u := ⟨_, (hRw1.at hiN).1⟩
        have HF1 := Lib.hid (And.intro hF1 hRw1)
        rw [hW1] at r0 f1 g1 HF1
        clear k1 k3 k4 o0 ho4 hF hRw hii hLi hnx hin hci hLVn hx hF1 hRw1 hW1 W1
        go_upto_block 4 with fail
        go_cut [65] (fun _ wx => Fr (fun k => k ≠ gl) w4 wx ∧ Rw wx gl (upd (lv2 LEV frm i lv) i (LV n : Int)) N)
        case first =>
          have ST : Hid (∀ y : Int, y = (LV n : Int) → Fr (fun k => k ≠ gl) w4 ((wr.setCell ⟨gl, i, none⟩ (.int .i64 (e : Int))).setCell ⟨gl, i, none⟩ (.int .i64 y)) ∧ Rw ((wr.setCell ⟨gl, i, none⟩ (.int .i64 (e : Int))).setCell ⟨gl, i, none⟩ (.int .i64 y)) gl (upd (lv2 LEV frm i lv) i (LV n : Int)) N) := Lib.hid (fun y hy => ⟨HF1.out.1.setCell _ _ (fun _ h => h rfl), (HF1.out.2.set i y).congr (fun j _ => by rw [upd_upd, hy])⟩)
          have ST0 : Hid (LV n = e → Fr (fun k => k ≠ gl) w4 (wr.setCell ⟨gl, i, none⟩ (.int .i64 (e : Int))) ∧ Rw (wr.setCell ⟨gl, i, none⟩ (.int .i64 (e : Int))) gl (upd (lv2 LEV frm i lv) i (LV n : Int)) N) := Lib.hid (fun hy => ⟨HF1.out.1, by rw [hy]; exact HF1.out.2⟩)
          have HM := HPE.out
          rcases HM with ⟨rfl, hod⟩ | ⟨rfl, hod⟩
          · by_cases hx15 : x = 15
            · have HV := Lib.hid (show LV n = e by rw [HLVn.out]; unfold B.lvl; rw [if_pos hod, if_pos hx15])
              have b15 : ((x : Int) != 15) = false := by simp; omega
              have b15' : ((x : Int) == 15) = true := by simp; omega
              clear hod
              go_wp2
              go_meet
              exact ST0.out HV.out
            · have HV := Lib.hid (show LV n = e + 1 by rw [HLVn.out]; unfold B.lvl; rw [if_pos hod, if_neg hx15])
              have b15 : ((x : Int) != 15) = true := by simp; omega
              clear hod
              go_wp2
              go_meet
              exact ST.out _ (by rw [HV.out]; go_num)
          · by_cases hx15 : x = 15
            · have HV := Lib.hid (show LV n = e + 1 by rw [HLVn.out]; unfold B.lvl; rw [if_neg hod, if_pos hx15])
              have b15' : ((x : Int) == 15) = true := by simp; omega
              clear hod
              go_wp2
              go_meet
              exact ST.out _ (by rw [HV.out]; go_num)
            · have b15' : ((x : Int) == 15) = false := by simp; omega
              by_cases hx17 : x = 17
              · have HV := Lib.hid (show LV n = e by rw [HLVn.out]; unfold B.lvl; rw [if_neg hod, if_neg hx15, if_pos hx17])
                have b17 : ((x : Int) != 17) = false := by simp; omega
                clear hod
                go_wp2
                go_meet
                exact ST0.out HV.out
              · have HV := Lib.hid (show LV n = e + 2 by rw [HLVn.out]; unfold B.lvl; rw [if_neg hod, if_neg hx15, if_neg hx17])
                have b17 : ((x : Int) != 17) = true := by simp; omega
                clear hod
                go_wp2
                go_meet
                exact ST.out _ (by rw [HV.out]; go_num)
        case rest =>
          obtain ⟨hFc, hRc⟩ := hcut
          obtain ⟨wq, hwq⟩ : ∃ x, x = wc := ⟨_, rfl⟩
          subst hwq
          obtain ⟨k1, k2, k3⟩ := KG.out _ hFc
          have x1 := k1.c1
          have x0 := k1.c0
          have hrl0 := k1.rl
          have hrc0 := k1.rc
          obtain ⟨LA, lc, rfl, hlc, hl⟩ := hrl0
          obtain ⟨lg, lo, rfl, hlg⟩ := hl (by omega)
          obtain ⟨CA, cc, rfl, hcc, hcl⟩ := hrc0
          obtain ⟨cg, co, rfl, hcg⟩ := hcl (by omega)
          have l0 : wq.cell? ⟨lg, lo + i, none⟩ = some (.int .i64 (cl i : Int)) := hlg i hiN
          have c0 : wq.cell? ⟨cg, co + i, none⟩ = some (.int .i64 (c i : Int)) := hcg i hiN
          have HC := Lib.hid (And.intro hFc (And.intro hRc k1))
          clear hFc hRc k1 k2 k3 hl hlg hcl hcg r0 g0 g1 f0 f1
          by_cases hc0 : cl i = 0
          · rw [hc0] at l0
            have hx : B.nx cl i = i + 1 := if_pos hc0
            have HXN := Lib.hid hx
            clear hc0 hx c0
            go_wp2
            go_roundw
            case rel =>
              refine ⟨n + 1, by go_num, hlt, HC.out.1, HC.out.2.1.congr (fun k _ => ?_)⟩
              rw [HNX.out, HXN.out]
              unfold lv2 upd
              by_cases h2 : k = i
              · subst h2; rw [if_pos rfl, if_pos ⟨hif, by omega⟩, HLL.out.1]
              · rw [if_neg h2]
                show (if frm ≤ k ∧ k < i then (LEV k : Int) else lv k) = _
                by_cases h1 : frm ≤ k ∧ k < i
                · rw [if_pos h1, if_pos ⟨h1.1, by omega⟩]
                · rw [if_neg h1, if_neg (by omega)]
            case measure => simp [RowKit.intOf]; omega
          · have hup := HK.out.up i hc0
            have hx : B.nx cl i = cl i := if_neg hc0
            have hle := HK.out.le i hiN
            have hnest : ∀ x, i + 1 ≤ x → x < cl i → cl x ≤ cl i := fun x h1 h2 => HK.out.nest i x (by omega) h2
            have hinn : B.inn c cl e i = if (decide ((e + 1) % 2 = 1)) = B.odd c cl i then e + 1 else e + 2 := rfl
            have hodd : B.odd c cl i = if c i = 11 then decide (B.stg c cl (i + 1) (cl i) = 15 ∨ B.stg c cl (i + 1) (cl i) = 14) else decide (c i = 10) := rfl
            have hsv : B.stg c cl (i + 1) (cl i) = 0 ∨ B.stg c cl (i + 1) (cl i) = 17 ∨ B.stg c cl (i + 1) (cl i) = 15 ∨ B.stg c cl (i + 1) (cl i) = 14 := stg_vals _ _ _ _
            have hcnt2 := B.cnt_le HK.out.up (i + 1) (cl i)
            have hspec2 := B.cnt_spec HK.out.up (i + 1) (cl i)
            have hin2 := HLL.out.2
            rw [hx] at hin2
            have HCI2 := HCI.out
            obtain ⟨b, hb⟩ : ∃ b, B.odd c cl i = b := ⟨_, rfl⟩
            rw [hb] at hinn hodd
            have ABV := Lib.hid (fun w => above_any e b w (by omega))
            rw [← hinn] at ABV
            obtain ⟨I, hI⟩ : ∃ I, B.inn c cl e i = I := ⟨_, rfl⟩
            rw [hI] at hinn ABV hin2
            have hI2 : I ≤ e + 2 := by rw [hinn]; split <;> omega
            obtain ⟨s, hs⟩ : ∃ s, B.stg c cl (i + 1) (cl i) = s := ⟨_, rfl⟩
            have hs' : B.stgF c (B.itm cl (i + 1)) (B.cnt cl (i + 1) (cl i)) 0 = s := hs
            rw [hs] at hodd hsv
            obtain ⟨cn2, hcn2⟩ : ∃ n, B.cnt cl (i + 1) (cl i) = n := ⟨_, rfl⟩
            rw [hcn2] at hs' hcnt2 hspec2
            obtain ⟨q, hq⟩ : ∃ q, cl i = q := ⟨_, rfl⟩
            rw [hq] at l0 hup hle hnest hspec2 hin2 HCI2 hx hc0 hcnt2
            have RO2 : Hid (∀ (A : Int), A = (i : Int) + 1 → Calls Try.prog 45 #[.pointer (some ⟨pb, 0, none⟩), .int .i64 A, .int .i64 (q : Int)] wq fun e w' => ∃ v, e = .returned v ∧ Below wq.heap.size wq w' ∧ Rd w' v (itI cl (i + 1)) cn2) := Lib.hid (fun A hA => by
              subst hA
              refine (rowR_any (i + 1) q N pb c cl wq hN hle (by omega) HK.out.up HK.out.le HC.out.2.2.pg).mono ?_
              rintro e w' ⟨v, h1, h2, h3⟩
              rw [← hq, hcn2] at h3
              exact ⟨v, h1, h2, row_rd h3⟩)
            have SA : Hid (∀ W' v, Rd W' v (itI cl (i + 1)) cn2 → Below wq.heap.size wq W' → Calls Try.prog 44 #[.pointer (some ⟨pb, 0, none⟩), v] W' fun e w' => e = .returned (.int .i64 (s : Int)) ∧ Below wq.heap.size wq w') := Lib.hid (fun W' v h1 h2 => by
              have := strongR_any v (B.itm cl (i + 1)) c cl cn2 N pb W' (by omega) hN h1 (HC.out.2.2.below h2).pg (fun j hj => by have := (hspec2 j).1 hj; omega)
              rw [hs'] at this
              refine this.mono ?_
              rintro e w' ⟨h3, d, rfl⟩
              exact ⟨h3, below_dn h2 d⟩)
            have LAY : Hid (∀ (A : Int), A = (i : Int) + 1 → ∀ W', Below wq.heap.size wq W' → Calls Try.prog 40 #[.pointer (some ⟨pb, 0, none⟩), .slice (some ⟨gl, 0, none⟩) N N, .int .i64 A, .int .i64 (q : Int), .int .i64 (I : Int)] W' fun en w' => (∃ v, en = .returned v) ∧ Fr (fun k => k ≠ gl) W' w' ∧ Rw w' gl (fun k => if i + 1 ≤ k ∧ k < q then (B.lev c cl f (i + 1) q I k : Int) else upd (lv2 LEV frm i lv) i (LV n : Int) k) N) := Lib.hid (fun A hA W' hW => by
              subst hA
              exact HP.out (by omega) pb gl _ _ (i + 1) q I W' _ (by omega) (by omega) hle hnest (by omega) (HC.out.2.2.below hW) (HC.out.2.1.fr (Fr.of_below (S := fun k => k < wq.heap.size) hW (fun k _ h => h)) HC.out.2.1.lt))
            have HIN := Lib.hid hin2
            have HXN := Lib.hid hx
            have HODD := Lib.hid hodd
            obtain ⟨y, hy⟩ : ∃ y, c i = y := ⟨_, rfl⟩
            rw [hy] at c0 HODD
            have hq0 : ((q : Int) == 0) = false := by simp; omega
            clear hinn hodd hcnt2 hspec2 hin2 hb hI hs hs' hcn2 hq hx hy hnest hc0
            go_upto_if 137 with fail
            go_cut [16] (fun s16 wx => s16 = .bool b ∧ Below wq.heap.size wq wx)
            case first =>
              by_cases h11 : y = 11
              · have b11 : ((y : Int) == 11) = true := by simp; omega
                rw [if_pos h11] at HODD
                have e11 : ((y : Int) == 10) = false := by simp; omega
                rcases hsv with rfl | rfl | rfl | rfl
                all_goals (
                  have HO2 := Lib.hid HODD.out
                  go_wp2_with (first
                    | (go_at_call 45; (with_reducible refine (RO2.out _ (by omega)).mono ?_); rintro en w5 ⟨v5, rfl, hb5, hr5⟩)
                    | (go_at_call 44; (with_reducible refine (SA.out _ _ hr5 hb5).mono ?_); rintro en w6 ⟨rfl, hb6⟩)
                    | fail)
                  go_meet
                  exact ⟨by rw [HO2.out]; rfl, hb6⟩)
              · have b11 : ((y : Int) == 11) = false := by simp; omega
                rw [if_neg h11] at HODD
                have HY := Lib.hid (show ((y : Int) == 10) = b by rw [HODD.out, Bool.eq_iff_iff]; simp; omega)
                go_wp2
                go_meet
                exact ⟨by rw [HY.out], Below.refl _ _⟩
            case rest =>
              obtain ⟨rfl, hbx⟩ := hcut
              obtain ⟨wz, hwz⟩ : ∃ x, x = wc := ⟨_, rfl⟩
              subst hwz
              go_wp2_with (first
                | (go_at_call 67; (with_reducible refine (ABV.out _).mono ?_); rintro en w7 ⟨rfl, rfl⟩)
                | (go_at_call 40; (with_reducible refine (LAY.out _ (by omega) _ hbx).mono ?_); rintro en w8 ⟨⟨v8, rfl⟩, hf8, hr8⟩; have HR8 := Lib.hid (And.intro hf8 hr8); clear hf8 hr8)
                | fail)
              go_roundw
              case rel =>
                refine ⟨n + 1, by go_num, hlt, (HC.out.1.trans (Fr.of_below (S := fun k => k ≠ gl) hbx (fun k hk _ => hk))).trans HR8.out.1, HR8.out.2.congr (fun k _ => ?_)⟩
                rw [HNX.out, HXN.out]
                unfold lv2
                by_cases h1 : i + 1 ≤ k ∧ k < q
                · rw [if_pos h1, if_pos ⟨by omega, by omega⟩, HIN.out k (by omega) h1.2]
                · rw [if_neg h1]
                  unfold upd
                  by_cases h3 : k = i
                  · subst h3; rw [if_pos rfl, if_pos ⟨hif, by omega⟩, HLL.out.1]
                  · rw [if_neg h3]
                    show (if frm ≤ k ∧ k < i then (LEV k : Int) else lv k) = _
                    by_cases h2 : frm ≤ k ∧ k < i
                    · rw [if_pos h2, if_pos ⟨h2.1, by omega⟩]
                    · rw [if_neg h2, if_neg (by omega)]
              case measure => simp [RowKit.intOf]; omega
      · obtain rfl : cnt = n := by omega
        have HF := Lib.hid (And.intro hF hRw)
        clear hF hRw
        go_wp2
        go_end0
        refine ⟨⟨_, rfl⟩, ?_, HF.out.2.congr (fun k _ => ?_)⟩
        · have h2 : Below W.heap.size W w4 := HB1.out.trans (HB4.out.mono hWs)
          exact (Fr.of_below (S := fun k => k ≠ gl) h2 (fun k hk _ => hk)).trans HF.out.1
        · rw [HEN.out, ← HLEV2.out]
          rfl
theorem layP_all (N : Nat) (c cl : Nat → Nat) (hN : N ≤ 4194304) (hK : ClOk N c cl) : ∀ f, LayP N c cl f := by
  intro f
  induction f with
  | zero =>
    intro pb gl cv clv frm tz e W lv hf hft htN hcr he hX hL
    refine (lay_core N c cl hN hK 0 pb gl cv clv frm tz e W lv (fun h => absurd h (by omega)) (by omega) hft htN hcr he hX hL).mono ?_
    rintro en w' ⟨h1, h2, h3⟩
    exact ⟨h1, h2, h3.congr (fun k _ => by rw [if_neg (by omega), if_neg (by omega)])⟩
  | succ f ih =>
    intro pb gl cv clv frm tz e W lv hf hft htN hcr he hX hL
    exact lay_core N c cl hN hK f pb gl cv clv frm tz e W lv (fun _ => ih) hf hft htN hcr he hX hL
end Go.Proofs.Ytclblidfamabdaa

/- The document's rims, Classes, end. -/
set_option linter.unusedVariables false
set_option linter.unusedSimpArgs false
namespace Go.Proofs.Ytclblidfamabdaa
open Go.RowKit Go.Shelf Go.Lib Go.BigFrame
attribute [local go_sem] Oper.semAt_some

set_option maxRecDepth 1000000 in
set_option maxHeartbeats 4000000 in
theorem rims_any (N : Nat) (c : Nat → Nat) (hN : N ≤ 4194304) (gl : Nat) (cv : Value) (base : Nat) (W : World) (lv : Nat → Int) (hR : Rd W cv (fun j => (c j : Int)) N) (hne : 0 < N → cv.ownBlock ≠ some gl) (hc : ∀ j, 1 ≤ c j ∧ c j ≤ 17) (hL : Rw W gl lv N) :
    Calls Try.prog 41 #[.slice (some ⟨gl, 0, none⟩) N N, cv, .int .i64 (base : Int)] W fun en w' => (∃ v, en = .returned v) ∧ Fr (fun k => k ≠ gl) W w' ∧ Rw w' gl (lstI base c N lv) N := by
  have HC := Lib.hid hc
  have OPN := Lib.hid (fun x w => opens_any x w)
  have KG : Hid (∀ wx, Fr (fun k => k ≠ gl) W wx → Rd wx cv (fun j => (c j : Int)) N) := Lib.hid (fun wx h => hR.fr0 h (fun h0 q e _ e2 => hne h0 (by rw [e, e2])))
  have hR' := hR
  obtain ⟨FA, fc, rfl, hfc, hfl⟩ := hR'
  have HFA : Hid (0 < N → ∃ fg fo, FA = some ⟨fg, fo, none⟩) := Lib.hid (fun h => by obtain ⟨g, o, h, _⟩ := hfl h; exact ⟨g, o, h⟩)
  have HL := Lib.hid hL
  clear hc hR hL hfl hne
  go_enter Try.func41, Try.ntmps41
  go_wp2
  go_loopw [6, 7] (fun bv iv wx => ∃ (k : Nat) (b : Bool), bv = .bool b ∧ iv = .int .i64 ((k : Int) - 1) ∧ k ≤ N ∧ b = B.rimF c N (N - k) ∧ Fr (fun k => k ≠ gl) W wx ∧ Rw wx gl (lstP base c N lv k) N) (fun _ iv _ => (RowKit.intOf iv + 1).toNat)
  case atStart => exact ⟨N, true, rfl, by go_num, Nat.le_refl _, by rw [Nat.sub_self]; rfl, Fr.refl _ _, HL.out.congr (fun j hj => by unfold lstP; rw [if_neg (by omega)])⟩
  case round =>
    obtain ⟨k, b, rfl, rfl, hk, hb, hF, hRw⟩ := hrel
    have k2 := KG.out _ hF
    by_cases h0 : k = 0
    · have HX := Lib.hid (And.intro hF hRw)
      subst h0
      clear hF hRw hb k2
      go_wp2
      go_end0
      exact ⟨⟨_, rfl⟩, HX.out.1, HX.out.2.congr (fun j _ => by unfold lstP; rw [if_pos (Nat.zero_le _)])⟩
    · obtain ⟨m, hm⟩ : ∃ m, k = m + 1 := ⟨k - 1, by omega⟩
      have hkm : ((k : Int) - 1) = (m : Int) := by omega
      rw [hkm]
      obtain ⟨fg, fo, rfl⟩ := HFA.out (by omega)
      obtain ⟨_, _, e1, _, k3⟩ := k2
      cases e1
      obtain ⟨_, _, e2, k4⟩ := k3 (by omega)
      cases e2
      have c0 : wr.cell? ⟨fg, fo + m, none⟩ = some (.int .i64 (c m : Int)) := k4 m (by omega)
      obtain ⟨l0, l1⟩ := hRw.at (show m < N by omega)
      have hcm := HC.out m
      have hd : N - m = (N - k) + 1 := by omega
      have hd2 : N - 1 - m = N - k := by omega
      have hd3 : N - 1 - (N - k) = m := by omega
      have hri : B.rimF c N (N - m) = if c m = 1 ∨ c m = 2 then true else if c m = 3 ∨ B.isIso (c m) = true then b else false := by
        rw [hd, hb]
        show (if c (N - 1 - (N - k)) = 1 ∨ c (N - 1 - (N - k)) = 2 then true else if c (N - 1 - (N - k)) = 3 ∨ B.isIso (c (N - 1 - (N - k))) = true then B.rimF c N (N - k) else false) = _
        rw [hd3]
      have hst : lstI base c N lv m = if c m = 1 ∨ c m = 2 then (base : Int) else if (c m = 3 ∨ B.isIso (c m) = true) ∧ b = true then (base : Int) else lv m := by
        unfold lstI; rw [hd2, hb]
      subst hm
      have HS : Hid (∀ W', Rw W' gl (upd (lstP base c N lv (m + 1)) m (lstI base c N lv m)) N → Rw W' gl (lstP base c N lv m) N) := Lib.hid (fun W' h => h.congr (fun j _ => lstP_step base c N lv m j))
      have HK : Hid (lstI base c N lv m = lv m → Rw wr gl (lstP base c N lv m) N) := Lib.hid (fun h => hRw.congr (fun j _ => lstP_keep base c N lv m h j))
      have HF := Lib.hid (And.intro hF hRw)
      clear hF hRw k3 k4 hb hd hd2 hd3 hkm h0
      obtain ⟨x, hx⟩ : ∃ x, c m = x := ⟨_, rfl⟩
      rw [hx] at c0 hcm hri hst
      clear hx
      by_cases h12 : x = 1 ∨ x = 2
      · rw [if_pos h12] at hri hst
        rw [hst] at HS
        have HR := Lib.hid hri
        clear hri hst HK
        rcases h12 with rfl | rfl
        all_goals
          go_wp2
          go_roundw
          case rel => exact ⟨m, true, rfl, by go_num, by omega, HR.out.symm, HF.out.1.setCell _ _ (fun _ h => h rfl), HS.out _ (HF.out.2.set _ _)⟩
          case measure => simp [RowKit.intOf]
      · rw [if_neg h12] at hri hst
        have b1 : ((x : Int) == 1) = false := by simp; omega
        have b2 : ((x : Int) == 2) = false := by simp; omega
        have OPx := OPN.out x
        obtain ⟨ob, hob⟩ : ∃ b, B.isOp x = b := ⟨_, rfl⟩
        rw [hob] at OPx
        have OPx := Lib.hid OPx
        have HOB := Lib.hid hob
        clear hob
        by_cases h3 : x = 3 ∨ B.isIso x = true
        · rw [if_pos h3] at hri
          have hor : x = 3 ∨ (x ≠ 3 ∧ ob = true) ∨ (x ≠ 3 ∧ ob = false ∧ x = 12) := by
            have := HOB.out
            rcases h3 with h | h
            · exact .inl h
            · unfold B.isIso at h
              unfold B.isOp at this
              cases ob <;> simp at h this ⊢ <;> omega
          cases b
          · rw [if_neg (by simp)] at hst
            have HR := Lib.hid hri
            have HK2 := Lib.hid (HK.out hst)
            clear hri hst HK HS h3 h12 hor
            go_wp2_with (go_at_call 62; (with_reducible refine (OPx.out _).mono ?_); rintro e2 w2 ⟨rfl, rfl⟩)
            go_roundw
            case rel => exact ⟨m, false, rfl, by go_num, by omega, HR.out.symm, HF.out.1, HK2.out⟩
            case measure => simp [RowKit.intOf]
          · rw [if_pos ⟨h3, rfl⟩] at hst
            rw [hst] at HS
            have HR := Lib.hid hri
            clear hri hst HK h3 h12
            rcases hor with h | ⟨h, rfl⟩ | ⟨h, rfl, h12⟩
            · have b3 : ((x : Int) == 3) = true := by simp; omega
              clear h
              go_wp2_with (go_at_call 62; (with_reducible refine (OPx.out _).mono ?_); rintro e2 w2 ⟨rfl, rfl⟩)
              go_roundw
              case rel => exact ⟨m, true, rfl, by go_num, by omega, HR.out.symm, HF.out.1.setCell _ _ (fun _ h => h rfl), HS.out _ (HF.out.2.set _ _)⟩
              case measure => simp [RowKit.intOf]
            · have b3 : ((x : Int) == 3) = false := by simp; omega
              clear h
              go_wp2_with (go_at_call 62; (with_reducible refine (OPx.out _).mono ?_); rintro e2 w2 ⟨rfl, rfl⟩)
              go_roundw
              case rel => exact ⟨m, true, rfl, by go_num, by omega, HR.out.symm, HF.out.1.setCell _ _ (fun _ h => h rfl), HS.out _ (HF.out.2.set _ _)⟩
              case measure => simp [RowKit.intOf]
            · have b3 : ((x : Int) == 3) = false := by simp; omega
              have b12 : ((x : Int) == 12) = true := by simp; omega
              clear h h12
              go_wp2_with (go_at_call 62; (with_reducible refine (OPx.out _).mono ?_); rintro e2 w2 ⟨rfl, rfl⟩)
              go_roundw
              case rel => exact ⟨m, true, rfl, by go_num, by omega, HR.out.symm, HF.out.1.setCell _ _ (fun _ h => h rfl), HS.out _ (HF.out.2.set _ _)⟩
              case measure => simp [RowKit.intOf]
        · rw [if_neg h3] at hri
          rw [if_neg (fun h => h3 h.1)] at hst
          have h3' : x ≠ 3 ∧ ¬ (9 ≤ x ∧ x ≤ 12) := ⟨fun h => h3 (.inl h), fun h => h3 (.inr (by simp [B.isIso]; omega))⟩
          have b3 : ((x : Int) == 3) = false := by simp; omega
          have b12 : ((x : Int) == 12) = false := by simp; omega
          have hof : ob = false := by
            have := HOB.out; unfold B.isOp at this; cases ob
            · rfl
            · simp at this; omega
          subst hof
          have HR := Lib.hid hri
          have HK2 := Lib.hid (HK.out hst)
          clear hri hst HK HS h3 h12 h3' l0 l1
          cases b
          all_goals
            go_wp2_with (go_at_call 62; (with_reducible refine (OPx.out _).mono ?_); rintro e2 w2 ⟨rfl, rfl⟩)
            go_roundw
            case rel => exact ⟨m, false, rfl, by go_num, by omega, HR.out.symm, HF.out.1, HK2.out⟩
            case measure => simp [RowKit.intOf]

theorem runesL_at (l : List UInt8) (k : Nat) (h : k < (U.toks l).length) : (runesL l)[k]? = some (C.rune (U.toks l) k : Int) := by
  unfold runesL C.rune
  rw [List.getElem?_map, List.getElem?_eq_getElem h]
  rfl
set_option maxRecDepth 1000000 in
set_option maxHeartbeats 4000000 in
theorem classesR_any (s : ByteArray) (w : World) (hs : s.size ≤ 4194304) (n : Nat) (hn : (C.clus (U.toks s.data.toList)).length = n) (c : Nat → Nat) (hc : B.kcl (U.toks s.data.toList) = c) :
    Calls Try.prog 37 #[.string s] w fun e w' => ∃ v, e = .returned v ∧ Below w.heap.size w w' ∧ w'.ownsRow w.heap.size 3 1 v n (ns (fun j => (c j : Int)) n) := by
  obtain ⟨i0, hi, hz0, hz1, hz2⟩ := info_parts Try.infoIn
  have hlen : (C.clus (U.toks s.data.toList)).length ≤ s.size := Nat.le_trans (C.clus_length_le _) toks_len
  rw [hn] at hlen
  have RU := Lib.hid (fun w => runesR_any s w hs)
  have CU := Lib.hid (fun w => clustersR_any s w hs)
  rw [hn] at CU
  have HST := Lib.hid (fun k x (hk : (C.clus (U.toks s.data.toList))[k]? = some x) => C.clus_steps _ (C.toks_14 _) k x hk)
  have HRA := Lib.hid (fun k (h : k < (U.toks s.data.toList).length) => runesL_at s.data.toList k h)
  have HRL := Lib.hid (runesL_len s.data.toList)
  have hrl4 : (runesL s.data.toList).length ≤ 4194304 := by rw [runesL_len]; exact Nat.le_trans toks_len hs
  have CA := Lib.hid (fun r w => classR_any r w)
  obtain ⟨K, hK⟩ : ∃ K, C.clus (U.toks s.data.toList) = K := ⟨_, rfl⟩
  obtain ⟨RL, hRL⟩ : ∃ R, runesL s.data.toList = R := ⟨_, rfl⟩
  obtain ⟨T, hT⟩ : ∃ T, U.toks s.data.toList = T := ⟨_, rfl⟩
  rw [hK] at CU HST hn
  rw [hT] at HST HRA HRL hc
  rw [hRL] at RU HRA HRL hrl4
  have HCC := Lib.hid hc
  have HN := Lib.hid hn
  clear hK hRL hT hc hn
  go_enter Try.func37, Try.ntmps37
  go_wp2_with (first
    | (go_at_call 50; (with_reducible refine (RU.out _).mono ?_); rintro e w1 ⟨v1, rfl, hb1, hr1⟩)
    | (go_at_call 51; (with_reducible refine (CU.out _).mono ?_); rintro e w2 ⟨v2, rfl, hb2, hr2⟩)
    | fail)
  obtain ⟨A1, c1, rfl, hA1⟩ := own_form hr1
  obtain ⟨A2, c2, rfl, hA2⟩ := own_form hr2
  have hB2 := bst hb1 hb2
  go_loopw [5, 6] (fun ov iv wx => ∃ k : Nat, iv = .int .i64 (k : Int) ∧ k ≤ n ∧ Below w2.heap.size w2 wx ∧ wx.ownsRow w2.heap.size 3 1 ov k (ns (fun j => (c j : Int)) k)) (fun _ iv _ => n - (RowKit.intOf iv).toNat)
  case atStart => exact ⟨0, rfl, Nat.zero_le _, Below.refl _ _, World.ownsRow_nil _ _ _ _⟩
  case round =>
    obtain ⟨k, rfl, hk, hB, hrow⟩ := hrel
    by_cases hlt : k < n
    · obtain ⟨g2, rfl⟩ := hA2 (by omega)
      obtain ⟨x, hx⟩ : ∃ x, K[k]? = some x := ⟨_, List.getElem?_eq_getElem (by rw [HN.out]; exact hlt)⟩
      obtain ⟨e1, e2, e3, e4, e5, e6, _⟩ := HST.out k x hx
      obtain ⟨_, _, d2, _, _⟩ := cellsC_at (own_below hr2 hB) hx
      have hfl : C.sgF T k < T.length := by omega
      have hra := HRA.out _ hfl
      have hrl := HRL.out
      obtain ⟨g1, rfl⟩ := hA1 (by omega)
      have hB12 : Below w1.heap.size w1 wr := bst hb2 hB
      have r0 := nums_at (own_below hr1 hB12) hra
      rw [← e2] at r0 hra hfl
      have hcv : (B.cls (C.rune T x.frm : Int)) = c k := by rw [← HCC.out, e2]; rfl
      have CAx := CA.out (C.rune T x.frm : Int)
      rw [hcv] at CAx
      have CAx := Lib.hid CAx
      obtain ⟨y, hy⟩ : ∃ y, C.rune T x.frm = y := ⟨_, rfl⟩
      rw [hy] at r0 CAx
      obtain ⟨q, hq⟩ : ∃ q, x.frm = q := ⟨_, rfl⟩
      rw [hq] at d2 r0
      have hql : q < RL.length := by omega
      have HR := Lib.hid (And.intro hB hrow)
      have hBs := hB.size
      clear hB hrow hx e1 e2 e3 e4 e5 e6 hra hcv hy hq hB12 hfl hrl
      go_wp2_with (first
        | (go_at_call 13; (with_reducible refine (CAx.out _).mono ?_); rintro e w3 ⟨rfl, hb3⟩; have ho3 := own_below HR.out.2 hb3; have hB3 := bst HR.out.1 hb3; have hs3 := hB3.size)
        | (at_builtin; go_must (refine wpList_append_own _ rfl _ _ 29 rfl w2.heap.size 3 i0 _ 1 8 Try.underlying29 hi hz0 hz1 hz2 rfl (by decide) _ _ _ rfl (ho3.alloc _) ⟨w3.heap.size, 0, none⟩ 1 1 [.int .i64 (c k : Int)] rfl rfl (World.news_of_block (World.alloc_heap_new w3 _)) (by simp [Value.oneCell']) (by unfold maxLen; omega) (by omega) (by simp; omega) ?_); intro v' w4 hown hg _)
        | fail)
      go_roundw
      case rel => exact ⟨k + 1, by go_num, hlt, (hB3.alloc hs3 _).grown hg (by simp; omega) (fun q e => (ho3.lt q e).1), by rw [ns_succ]; exact hown⟩
      case measure => simp [RowKit.intOf]; omega
    · obtain rfl : n = k := by omega
      have HX := Lib.hid (And.intro hB (And.intro hB2 hrow))
      clear hB hB2 hrow
      go_wp2
      go_ret
      exact ⟨_, rfl, bst HX.out.2.1 HX.out.1, ownsRow_base HX.out.2.2 HX.out.2.1.size⟩

set_option maxRecDepth 1000000 in
theorem endR_any (v : Value) (c : Nat → Nat) (n frm : Nat) (w : World) (hn : n ≤ 4194304) (hf : frm ≤ n) (hv : Rd w v (fun j => (c j : Int)) n) :
    Calls Try.prog 38 #[v, .int .i64 (frm : Int)] w fun e w' => e = .returned (.int .i64 (B.pfin c n frm : Int)) ∧ w = w' := by
  obtain ⟨A, cap, rfl, hle, h1⟩ := hv
  obtain ⟨X, hX⟩ : ∃ X, B.pfin c n frm = X := ⟨_, rfl⟩
  have HX := Lib.hid (show B.pendF c n (n - frm) frm = X from hX)
  rw [hX]
  have H1 := Lib.hid h1
  clear hX h1
  go_enter Try.func38, Try.ntmps38
  go_wp2
  go_loop [5] (fun i => ∃ k : Nat, i = .int .i64 (k : Int) ∧ k ≤ n ∧ Hid (B.pendF c n (n - k) k = X)) (fun i => n - (RowKit.intOf i).toNat)
  case atStart => exact ⟨frm, rfl, hf, HX⟩
  case round =>
    obtain ⟨k, rfl, hk, hX⟩ := hrel
    by_cases hlt : k < n
    · obtain ⟨g, o, rfl, hc⟩ := H1.out (by omega)
      have c0 : w.cell? ⟨g, o + k, none⟩ = some (.int .i64 (c k : Int)) := hc k hlt
      have hstep : (if c k = 1 then k + 1 else B.pendF c n (n - (k + 1)) (k + 1)) = X := by
        rw [← hX.out]
        obtain ⟨m, hm⟩ : ∃ m, n - k = m + 1 := ⟨n - k - 1, by omega⟩
        rw [hm, show n - (k + 1) = m by omega]
        show _ = if k < n then (if c k = 1 then k + 1 else B.pendF c n m (k + 1)) else k
        rw [if_pos hlt]
      obtain ⟨x, hx⟩ : ∃ x, c k = x := ⟨_, rfl⟩
      rw [hx] at c0 hstep
      clear hc hX hx
      by_cases h1 : x = 1
      · rw [if_pos h1] at hstep
        have HS := Lib.hid hstep
        have b1 : ((x : Int) == 1) = true := by simp; omega
        clear hstep h1
        go_wp2
        go_ret
        exact ⟨rC_int (by rw [← HS.out]; go_num), rfl⟩
      · rw [if_neg h1] at hstep
        have HS := Lib.hid hstep
        have b1 : ((x : Int) == 1) = false := by simp; omega
        clear hstep h1
        go_wp2
        go_round
        case rel => exact ⟨k + 1, by go_num, hlt, HS⟩
        case measure => simp [RowKit.intOf]; omega
    · obtain rfl : n = k := by omega
      have HS := Lib.hid (show n = X by have := hX.out; rw [Nat.sub_self] at this; exact this)
      clear hX
      go_wp2
      go_ret
      exact ⟨rC_int (by rw [HS.out]), rfl⟩
end Go.Proofs.Ytclblidfamabdaa

/- The document's Base. -/
set_option linter.unusedVariables false
set_option linter.unusedSimpArgs false
namespace Go.Proofs.Ytclblidfamabdaa
open Go.RowKit Go.Shelf Go.Lib Go.BigFrame
attribute [local go_sem] Oper.semAt_some

theorem pendF_spec (c : Nat → Nat) (n : Nat) : ∀ f b, b ≤ n → n - b ≤ f → b ≤ B.pendF c n f b ∧ B.pendF c n f b ≤ n ∧ (b < n → b < B.pendF c n f b) ∧ (∀ k, b ≤ k → k + 1 < B.pendF c n f b → c k ≠ 1) ∧ (B.pendF c n f b = n ∨ (b < B.pendF c n f b ∧ c (B.pendF c n f b - 1) = 1)) := by
  intro f
  induction f with
  | zero =>
    intro b h1 h2
    unfold B.pendF
    exact ⟨Nat.le_refl _, h1, fun h => by omega, fun k h3 h4 => by omega, .inl (by omega)⟩
  | succ f ih =>
    intro b h1 h2
    unfold B.pendF
    by_cases hb : b < n
    · rw [if_pos hb]
      by_cases hc : c b = 1
      · rw [if_pos hc]
        exact ⟨by omega, by omega, fun _ => by omega, fun k h3 h4 => by omega, .inr ⟨by omega, by rw [Nat.add_sub_cancel]; exact hc⟩⟩
      · rw [if_neg hc]
        obtain ⟨i1, i2, i3, i4, i5⟩ := ih (b + 1) hb (by omega)
        refine ⟨by omega, i2, fun _ => by omega, fun k h3 h4 => ?_, i5.imp id (fun h => ⟨by omega, h.2⟩)⟩
        by_cases hk : k = b
        · subst hk; exact hc
        · exact i4 k (by omega) h4
    · rw [if_neg hb]
      exact ⟨Nat.le_refl _, h1, fun h => absurd h hb, fun k h3 h4 => by omega, .inl (by omega)⟩
theorem pfin_spec (c : Nat → Nat) (n b : Nat) (h : b ≤ n) : b ≤ B.pfin c n b ∧ B.pfin c n b ≤ n ∧ (b < n → b < B.pfin c n b) ∧ (∀ k, b ≤ k → k + 1 < B.pfin c n b → c k ≠ 1) ∧ (B.pfin c n b = n ∨ (b < B.pfin c n b ∧ c (B.pfin c n b - 1) = 1)) := pendF_spec c n _ b h (Nat.le_refl _)
theorem pbeg_in (c : Nat → Nat) (n b : Nat) (hb : b ≤ n) (h0 : b = 0 ∨ c (b - 1) = 1) : ∀ d, b + d < B.pfin c n b → B.pbeg c (b + d) = b := by
  obtain ⟨_, _, _, h4, _⟩ := pfin_spec c n b hb
  intro d
  induction d with
  | zero =>
    intro _
    cases b with
    | zero => rfl
    | succ b =>
      show (if c b = 1 then b + 1 else B.pbeg c b) = b + 1
      rcases h0 with h | h
      · omega
      · rw [Nat.add_sub_cancel] at h; rw [if_pos h]
  | succ d ih =>
    intro h
    show (if c (b + d) = 1 then b + d + 1 else B.pbeg c (b + d)) = b
    rw [if_neg (h4 (b + d) (by omega) (by omega)), ih (by omega)]
theorem Rd.part {w : World} {g o n cap m C : Nat} {c : Nat → Int} (h : Rd w (.slice (some ⟨g, o, none⟩) n cap) c n) (b : Nat) (hm : b + m ≤ n) (hC : m ≤ C) : Rd w (.slice (some ⟨g, o + b, none⟩) m C) (fun j => c (b + j)) m := by
  obtain ⟨_, _, e1, _, h1⟩ := h
  cases e1
  refine ⟨_, _, rfl, hC, fun h0 => ⟨g, o + b, rfl, fun j hj => ?_⟩⟩
  obtain ⟨_, _, e2, h2⟩ := h1 (by omega)
  cases e2
  rw [Nat.add_assoc]
  exact h2 (b + j) (by omega)
theorem Rd.take {w : World} {A : Option Addr} {n cap m : Nat} {c : Nat → Int} (h : Rd w (.slice A n cap) c n) (hm : m ≤ n) : Rd w (.slice A m cap) c m := by
  obtain ⟨_, _, e1, h0, h1⟩ := h
  cases e1
  refine ⟨_, _, rfl, by omega, fun h2 => ?_⟩
  obtain ⟨g, o, e2, h3⟩ := h1 (by omega)
  exact ⟨g, o, e2, fun j hj => h3 j (by omega)⟩
theorem own_two {w : World} {base : Nat} {e : TypeId} {sz n : Nat} {v : Value} {xs : List Value} (h : w.ownsRow base e sz v n xs) : (v = .slice none 0 0 ∧ n = 0) ∨ ∃ g cap, v = .slice (some ⟨g, 0, none⟩) n cap ∧ n ≤ cap ∧ base ≤ g := by
  have hl := h.lt
  rcases h.2 with ⟨h1, h2⟩ | ⟨g, cap, cur, rfl, _, _, h4, _⟩
  · exact .inl ⟨h1, h2⟩
  · exact .inr ⟨g, cap, rfl, h4, (hl g rfl).1⟩

set_option maxRecDepth 1000000 in
set_option maxHeartbeats 4000000 in
theorem baseR_any (s : ByteArray) (ow : Int) (w : World) (hs : s.size ≤ 4194304) (n : Nat) (hn : (C.clus (U.toks s.data.toList)).length = n) (c : Nat → Nat) (hc : B.kcl (U.toks s.data.toList) = c) :
    Calls Try.prog 22 #[.string s, .int .i64 ow] w fun e w' => e = .returned (.int .i64 (bseI c n ow)) ∧ Below w.heap.size w w' := by
  have hlen : (C.clus (U.toks s.data.toList)).length ≤ s.size := Nat.le_trans (C.clus_length_le _) toks_len
  rw [hn] at hlen
  have CL := Lib.hid (fun w => classesR_any s w hs n hn c hc)
  have HCL := Lib.hid (fun j => hc ▸ B.kcl_le (U.toks s.data.toList) j : ∀ j, 1 ≤ c j ∧ c j ≤ 17)
  obtain ⟨R, hR⟩ : ∃ r, bseI c n ow = r := ⟨_, rfl⟩
  have HRI := Lib.hid hR
  rw [hR]
  obtain ⟨m, hm⟩ : ∃ m, B.pfin c n 0 = m := ⟨_, rfl⟩
  have hmn : m ≤ n := by rw [← hm]; exact (pfin_spec c n 0 (Nat.zero_le _)).2.1
  have ED : Hid (∀ v w, Rd w v (fun j => (c j : Int)) n → Calls Try.prog 38 #[v, .int .i64 0] w fun e w' => e = .returned (.int .i64 (m : Int)) ∧ w = w') := Lib.hid (fun v w h => by
    have := endR_any v c n 0 w (by omega) (Nat.zero_le _) h
    rw [hm] at this
    exact this)
  have hcl := B.clo_ok c m
  have hok0 := hcl.ok (fun j => (HCL.out j).2)
  have hok : ClOk m c (B.clo c m) := ⟨hok0.up, hok0.le, hok0.nest, fun j => (HCL.out j).2⟩
  have hcnt := B.cnt_le hok.up 0 m
  have hspec := B.cnt_spec hok.up 0 m
  have hsv : B.stg c (B.clo c m) 0 m = 0 ∨ B.stg c (B.clo c m) 0 m = 17 ∨ B.stg c (B.clo c m) 0 m = 15 ∨ B.stg c (B.clo c m) 0 m = 14 := stg_vals _ _ _ _
  have hbse : R = if B.stg c (B.clo c m) 0 m = 0 then ow else stI (B.stg c (B.clo c m) 0 m) := by rw [← HRI.out]; unfold bseI B.fst; rw [hm]
  have RO : Hid (∀ pb W', Pg W' pb m c (B.clo c m) → ∀ M : Int, M = (m : Int) → Calls Try.prog 45 #[.pointer (some ⟨pb, 0, none⟩), .int .i64 0, .int .i64 M] W' fun e w' => ∃ v, e = .returned v ∧ Below W'.heap.size W' w' ∧ Rd w' v (itI (B.clo c m) 0) (B.cnt (B.clo c m) 0 m)) := Lib.hid (fun pb W' h M hM => by
    subst hM
    refine (rowR_any 0 m m pb c (B.clo c m) W' (by omega) (Nat.le_refl _) (Nat.zero_le _) hok.up hok.le h).mono ?_
    rintro e w' ⟨v, h1, h2, h3⟩
    exact ⟨v, h1, h2, row_rd h3⟩)
  have SA : Hid (∀ pb W' v, Rd W' v (itI (B.clo c m) 0) (B.cnt (B.clo c m) 0 m) → Pg W' pb m c (B.clo c m) → Calls Try.prog 44 #[.pointer (some ⟨pb, 0, none⟩), v] W' fun e w' => e = .returned (.int .i64 (B.stg c (B.clo c m) 0 m : Int)) ∧ ∃ q, w' = W'.drewN q) := Lib.hid (fun pb W' v h1 h2 => strongR_any v (B.itm (B.clo c m) 0) c (B.clo c m) _ m pb W' (by omega) (by omega) h1 h2 (fun j hj => by have := (hspec j).1 hj; omega))
  have MT := Lib.hid (fun A cap W (h : Rd W (.slice A m cap) (fun j => (c j : Int)) m) => matchedR_any A m cap c W (by omega) h)
  obtain ⟨X, hX⟩ : ∃ X, B.stg c (B.clo c m) 0 m = X := ⟨_, rfl⟩
  rw [hX] at SA hsv hbse
  obtain ⟨cnt, hcn⟩ : ∃ k, B.cnt (B.clo c m) 0 m = k := ⟨_, rfl⟩
  rw [hcn] at RO SA hcnt
  obtain ⟨CLO, hCLO⟩ : ∃ f, B.clo c m = f := ⟨_, rfl⟩
  rw [hCLO] at RO SA MT
  have HBS := Lib.hid hbse
  clear hn hc hR hcl hok0 hok hspec hbse hX hcn hCLO hm
  go_enter Try.func22, Try.ntmps22
  go_upto_region 2 with (go_at_call 37; (with_reducible refine (CL.out _).mono ?_); rintro e w1 ⟨v1, rfl, hb1, hr1⟩)
  have hrd := row_rd hr1
  have H2 := own_two hr1
  have HB1 := Lib.hid hb1
  clear hb1 hr1
  have GO : ∀ A cap, v1 = .slice A n cap → n ≤ cap → Hid (Rd w1 v1 (fun j => (c j : Int)) n) := fun A cap e h => Lib.hid hrd
  have H3 : (v1 = .slice none 0 0 ∧ n = 0 ∧ m = 0) ∨ ∃ g cap, v1 = .slice (some ⟨g, 0, none⟩) n cap ∧ n ≤ cap ∧ w.heap.size ≤ g := H2.imp (fun h => ⟨h.1, h.2, by omega⟩) id
  clear H2
  rcases H3 with ⟨rfl, rfl, rfl⟩ | ⟨g, cap, rfl, hcap, _⟩
  all_goals (
    have HRD := Lib.hid hrd
    have HTK := Lib.hid (hrd.take hmn)
    clear GO hrd
    go_upto_region 3 with (first
      | (go_at_call 38; (with_reducible refine (ED.out _ _ HRD.out).mono ?_); rintro e w2 ⟨rfl, rfl⟩)
      | (go_at_call 39; (with_reducible refine (MT.out _ _ _ HTK.out).mono ?_); rintro e w3 ⟨pb, rfl, hb3, hpb, hpb2, x0, gc, x1, hgc, hr3⟩)
      | fail)
    have hPG : Pg w3 pb _ c CLO := ⟨⟨_, x0, HTK.out.below hb3⟩, ⟨_, x1, hr3.rd _ (Nat.le_refl _)⟩⟩
    have HPG := Lib.hid hPG
    have HB3 := Lib.hid hb3
    clear hPG hb3 x1 hr3
    rcases hsv with rfl | rfl | rfl | rfl
    all_goals (
      go_wp2_with (first
        | (go_at_call 45; (with_reducible refine (RO.out _ _ HPG.out _ (by first | rfl | simp)).mono ?_); rintro e w5 ⟨v5, rfl, hb5, hr5⟩)
        | (go_at_call 44; (with_reducible refine (SA.out _ _ _ hr5 (HPG.out.below hb5)).mono ?_); rintro e w6 ⟨rfl, d6, rfl⟩)
        | fail)
      go_ret
      exact ⟨rC_int (by rw [HBS.out]; rfl), below_dn (bst (bst HB1.out HB3.out) hb5) _⟩))
end Go.Proofs.Ytclblidfamabdaa

/- The document's Levels. -/
set_option linter.unusedVariables false
set_option linter.unusedSimpArgs false
namespace Go.Proofs.Ytclblidfamabdaa
open Go.RowKit Go.Shelf Go.Lib Go.BigFrame
attribute [local go_sem] Oper.semAt_some

/-- A paragraph's levels, laid one behind the other. -/
theorem ns_part2 {c cN : Nat → Nat} {n b e m base : Nat} (hb : b ≤ n) (h0 : b = 0 ∨ c (b - 1) = 1) (he : B.pfin c n b = e) (hm : e - b = m) (hN : (fun j => c (b + j)) = cN) (lv : Nat → Int) (hl : ∀ j, j < m → lv j = (B.lev cN (B.clo cN m) m 0 m base j : Int)) : ns (lvI base n c) e = ns (lvI base n c) b ++ ns (lstI base cN m lv) m := by
  have hbe := (pfin_spec c n b hb).1
  rw [he] at hbe
  rw [show e = b + m by omega, ns_append]
  congr 1
  apply ns_congr
  intro j hj
  have e1 : B.pbeg c (b + j) = b := pbeg_in c n b hb h0 j (by rw [he]; omega)
  show ((B.lvAll base c n (b + j) : Nat) : Int) = _
  unfold B.lvAll
  rw [e1, he, hm, hN, show b + j - b = j by omega]
  unfold B.plev lstI
  rw [hl j hj]
  by_cases h1 : cN j = 1 ∨ cN j = 2
  · rw [if_pos h1, if_pos h1]
  · rw [if_neg h1, if_neg h1]
    by_cases h2 : (cN j = 3 ∨ B.isIso (cN j) = true) ∧ B.rimF cN m (m - 1 - j) = true
    · rw [if_pos h2, if_pos h2]
    · rw [if_neg h2, if_neg h2]

set_option maxRecDepth 1000000 in
set_option maxHeartbeats 8000000 in
theorem levelsR_any (s : ByteArray) (base : Nat) (hbase : base = 0 ∨ base = 1) (w : World) (hs : s.size ≤ 4194304) (n : Nat) (hn : (C.clus (U.toks s.data.toList)).length = n) (c : Nat → Nat) (hc : B.kcl (U.toks s.data.toList) = c) :
    Calls Try.prog 19 #[.string s, .int .i64 (base : Int)] w fun e w' => ∃ v, e = .returned (.tuple #[v, .int .i64 0]) ∧ Below w.heap.size w w' ∧ w'.ownsRow w.heap.size 3 1 v n (ns (lvI base n c) n) := by
  obtain ⟨i0, hi, hz0, hz1, hz2⟩ := info_parts Try.infoIn
  have hlen : (C.clus (U.toks s.data.toList)).length ≤ s.size := Nat.le_trans (C.clus_length_le _) toks_len
  rw [hn] at hlen
  have CL := Lib.hid (fun w => classesR_any s w hs n hn c hc)
  have HCL := Lib.hid (fun j => hc ▸ B.kcl_le (U.toks s.data.toList) j : ∀ j, 1 ≤ c j ∧ c j ≤ 17)
  have ED := Lib.hid (fun v b w (hb : b ≤ n) (h : Rd w v (fun j => (c j : Int)) n) => endR_any v c n b w (by omega) hb h)
  have hb01 : base ≤ 1 := by omega
  have hbb : (((base : Int) != 0) && ((base : Int) != 1)) = false := by rcases hbase with rfl | rfl <;> rfl
  have HBS := Lib.hid hbase
  clear hn hc hbase
  have START : Hid (∀ K : Prop, (base = 0 → K) → (base = 1 → K) → K) := Lib.hid (fun K h0 h1 => HBS.out.elim h0 h1)
  obtain ⟨z0, hz⟩ : ∃ b, ((base : Int) != 0) = b := ⟨_, rfl⟩
  obtain ⟨z1, hz'⟩ : ∃ b, ((base : Int) != 1) = b := ⟨_, rfl⟩
  have hzz : z0 = false ∨ (z0 = true ∧ z1 = false) := by
    rw [← hz, ← hz']
    rcases HBS.out with rfl | rfl
    · exact .inl rfl
    · exact .inr ⟨rfl, rfl⟩
  clear hbb START HBS
  go_enter Try.func19, Try.ntmps19
  go_upto_region 1 with fail
  go_cut [17] (fun s17 wx => s17 = .bool false ∧ wx = w)
  case first =>
    rcases hzz with rfl | ⟨rfl, rfl⟩
    · go_wp2
      go_meet
      exact ⟨rfl, rfl⟩
    · go_wp2
      go_meet
      exact ⟨rfl, rfl⟩
  case rest =>
    obtain ⟨rfl, rfl⟩ := hcut
    obtain ⟨w0, hw0⟩ : ∃ x, x = wc := ⟨_, rfl⟩
    subst hw0
    clear hzz hz hz'
    go_wp2_with (go_at_call 37; (with_reducible refine (CL.out _).mono ?_); rintro e w1 ⟨v1, rfl, hb1, hr1⟩; obtain ⟨A1, c1, rfl, hc1, hA1⟩ := ownN_form hr1)
    have hrd1 := row_rd hr1
    go_loopw [7, 8] (fun ov bv wx => ∃ b : Nat, bv = .int .i64 (b : Int) ∧ b ≤ n ∧ (b = 0 ∨ c (b - 1) = 1 ∨ b = n) ∧ Below w1.heap.size w1 wx ∧ wx.ownsRow w1.heap.size 3 1 ov b (ns (lvI base n c) b)) (fun _ bv _ => n - (RowKit.intOf bv).toNat)
    case atStart => exact ⟨0, rfl, Nat.zero_le _, .inl rfl, Below.refl _ _, World.ownsRow_nil _ _ _ _⟩
    case round =>
      obtain ⟨b, rfl, hbn, hb0, hB, hrow⟩ := hrel
      by_cases hlt : b < n
      · obtain ⟨g1, rfl⟩ := hA1 (by omega)
        have hb0' : b = 0 ∨ c (b - 1) = 1 := by
          rcases hb0 with h | h | h
          · exact .inl h
          · exact .inr h
          · omega
        have hrdw := hrd1.below hB
        obtain ⟨p1, p2, p3, p4, p5⟩ := pfin_spec c n b hbn
        have p3 := p3 hlt
        have EDb := ED.out _ b wr hbn hrdw
        obtain ⟨e, he⟩ : ∃ e, B.pfin c n b = e := ⟨_, rfl⟩
        rw [he] at EDb p1 p2 p3 p5
        have EDb := Lib.hid EDb
        obtain ⟨m, hm⟩ : ∃ m, e - b = m := ⟨_, rfl⟩
        have e1 : (e : Int) - (b : Int) = (m : Int) := by omega
        have hm4 : m ≤ 4194304 := by omega
        obtain ⟨cN, hcN⟩ : ∃ f : Nat → Nat, (fun j => c (b + j)) = f := ⟨_, rfl⟩
        have hcN17 : ∀ j, 1 ≤ cN j ∧ cN j ≤ 17 := fun j => by rw [← hcN]; exact HCL.out _
        have hPart : ∀ C, m ≤ C → Rd wr (.slice (some ⟨g1, b, none⟩) m C) (fun j => (cN j : Int)) m := fun C hC => by
          have := hrdw.part b (m := m) (C := C) (by omega) hC
          rw [Nat.zero_add] at this
          rw [← hcN]; exact this
        have MT : Hid (∀ (v : Value) (C : Nat), v = .slice (some ⟨g1, b, none⟩) m C → m ≤ C → Calls Try.prog 39 #[v] wr fun e w' => ∃ pb, e = .returned (.pointer (some ⟨pb, 0, none⟩)) ∧ Below wr.heap.size wr w' ∧ wr.heap.size ≤ pb ∧ pb < w'.heap.size ∧ w'.cell? ⟨pb, 0, none⟩ = some v ∧ Rd w' v (fun j => (cN j : Int)) m ∧ v.ownBlock = some g1 ∧ ∃ gc, w'.cell? ⟨pb, 1, none⟩ = some (.slice (some ⟨gc, 0, none⟩) m m) ∧ gc < w'.heap.size ∧ Rw w' gc (fun j => (B.clo cN m j : Int)) m) := Lib.hid (fun v C hv hC => by
          subst hv
          refine (matchedR_any _ m C cN wr hm4 (hPart C hC)).mono ?_
          rintro e w' ⟨pb, h1, h2, h3, h4, h5, gc, h6, h7, h8⟩
          exact ⟨pb, h1, h2, h3, h4, h5, (hPart C hC).below h2, rfl, gc, h6, h8.lt, h8⟩)
        have hmk : ∀ W : World, (Instr.makeSlice 29 (.int .i64 (m : Int)) (.int .i64 (m : Int))).run Try.prog W = .ok (.slice (some ⟨W.heap.size, 0, none⟩) m m) (W.alloc (.cells (madeCells (Value.int .i64 0).cells m) 3)) := fun W => by
          have h := run_make (P := Try.prog) W 29 3 i0 _ Try.underlying29 hi hz0 .i64 .i64 (m : Int) (m : Int) (by omega) (by omega) (by rw [hz2]; omega) (by omega)
          rw [h, hz1, Int.toNat_natCast, Nat.mul_one]
        have HMR := Lib.hid (fun W => make_rw W m)
        obtain ⟨MC, hMC⟩ : ∃ M, madeCells (Value.int .i64 0).cells m = M := ⟨_, rfl⟩
        rw [hMC] at hmk HMR
        have hg1 : g1 < w1.heap.size := (row_rw hr1).lt
        have HF := Lib.hid (And.intro hB (And.intro hrow (And.intro hb0' (And.intro he (And.intro hm (And.intro hcN p5))))))
        have hBs := hB.size
        clear hMC hB hrow hb0 hb0' p4 p5 he hrdw hPart hcN hm
        go_upto_region 10 with (first
          | (go_at_call 38; (with_reducible refine EDb.out.mono ?_); rintro e2 w2 ⟨rfl, rfl⟩)
          | (go_at_call 39; (with_reducible refine (MT.out _ (c1 - b) (by first | rfl | (simp; omega)) (by omega)).mono ?_); rintro e3 w3 ⟨pb, rfl, hb3, hpb, hpb2, x0, x0r, x0b, gc, x1, hgc, hr3⟩)
          | fail)
        have hok0 := (B.clo_ok cN m).ok (fun j => (hcN17 j).2)
        have hok : ClOk m cN (B.clo cN m) := ⟨hok0.up, hok0.le, hok0.nest, fun j => (hcN17 j).2⟩
        have hL4 := HMR.out w3
        obtain ⟨w4, hw4⟩ : ∃ x, w3.alloc (.cells MC 3) = x := ⟨_, rfl⟩
        rw [hw4] at hL4
        have hb4 : Below w3.heap.size w3 w4 := by rw [← hw4]; exact (Below.refl _ _).alloc (Nat.le_refl _) _
        obtain ⟨gl, hgl⟩ : ∃ g, w3.heap.size = g := ⟨_, rfl⟩
        have hs3 := hb3.size
        have hPq : Pq w4 pb m gl _ _ cN (B.clo cN m) := ⟨(World.cell?_of_block (hb4.block _ hpb2)).trans x0, (World.cell?_of_block (hb4.block _ hpb2)).trans x1, x0r.below hb4, (hr3.rd m (Nat.le_refl _)).below hb4, by omega, fun _ => by rw [x0b]; intro h; have : g1 = gl := Option.some.inj h; omega, by intro h; have : gc = gl := Option.some.inj h; omega⟩
        rw [hgl] at hL4
        have LY : Hid (Calls Try.prog 40 #[.pointer (some ⟨pb, 0, none⟩), .slice (some ⟨gl, 0, none⟩) m m, .int .i64 0, .int .i64 (m : Int), .int .i64 (base : Int)] w4 _) := Lib.hid (layP_all m cN (B.clo cN m) hm4 hok m pb gl _ _ 0 m base w4 (fun _ => 0) (by omega) (Nat.zero_le _) (Nat.le_refl _) (fun x _ h => hok.le x h) (by omega) hPq hL4)
        have HPq := Lib.hid hPq
        have HB4 := Lib.hid (And.intro hb3 (And.intro hb4 (And.intro hgl hs3)))
        rw [hw4, hgl]
        clear hPq hL4 hb3 hb4 hok hok0 x0 x1 x0r x0b hr3 hgc hpb hpb2 hw4 hgl hs3 hmk HMR MT EDb
        go_upto_region 11 with (go_at_call 40; (with_reducible refine LY.out.mono ?_); rintro e5 w5 ⟨⟨v5, rfl⟩, hf5, hr5⟩)
        have hPq5 := HPq.out.fr hf5
        have x5 := hPq5.c0
        have RM := Lib.hid (rims_any m cN hm4 gl _ base w5 _ hPq5.rc hPq5.ne.2.1 hcN17 hr5)
        have HF5 := Lib.hid hf5
        clear hPq5 hf5 hr5 LY
        go_upto_region 12 with (go_at_call 41; (with_reducible refine RM.out.mono ?_); rintro e6 w7 ⟨⟨v6, rfl⟩, hf7, hr7⟩)
        have hB7 : Below wr.heap.size wr w7 := by
          have q := HB4.out
          have b4 := bst q.1 q.2.1
          exact b4.trans ((HF5.out.trans hf7).toBelow (fun k hk => by show k ≠ gl; have := q.2.2.1; have := q.2.2.2; omega) b4.size)
        obtain ⟨lv7, hlv7⟩ : ∃ l, lstI base cN m (fun k => if 0 ≤ k ∧ k < m then (B.lev cN (B.clo cN m) m 0 m base k : Int) else 0) = l := ⟨_, rfl⟩
        have hNS : ns (lvI base n c) e = ns (lvI base n c) b ++ ns lv7 m := by
          rw [← hlv7]
          obtain ⟨_, _, q3, q4, q5, q6, _⟩ := HF.out
          exact ns_part2 hbn q3 q4 q5 q6 _ (fun j hj => if_pos ⟨Nat.zero_le _, hj⟩)
        rw [hlv7] at hr7
        have hrow7 := own_below HF.out.2.1 hB7
        have hnews : ∀ (j : Nat) (u : Value), (ns lv7 m)[j]? = some u → w7.cell? ((⟨gl, 0, none⟩ : Addr).add j) = some u := fun j u hu => by
          have hj : j < m := by have := (List.getElem?_eq_some_iff.1 hu).1; rwa [ns_length] at this
          rw [ns_at lv7 hj] at hu
          cases hu
          rw [Go.WideShapes.add_plain, Nat.zero_add]
          exact (hr7.at hj).1
        have hone : ∀ u ∈ ns lv7 m, u.oneCell' = true := by intro u hu; simp [ns] at hu; obtain ⟨_, _, rfl⟩ := hu; rfl
        have hlen7 : (ns lv7 m).length = m * 1 := by rw [ns_length, Nat.mul_one]
        have hsz : b + m ≤ 4194304 := by omega
        have HN := Lib.hid (And.intro hrow7 (And.intro hnews (And.intro hone hlen7)))
        have H8 := Lib.hid (And.intro hB7 hNS)
        clear hB7 hNS hrow7 hnews hone hlen7 hf7 hr7 hlv7
        obtain ⟨L1, hL1⟩ : ∃ L, ns (lvI base n c) b = L := ⟨_, rfl⟩
        obtain ⟨L2, hL2⟩ : ∃ L, ns lv7 m = L := ⟨_, rfl⟩
        have hbm : b + m = e := by omega
        have HBM := Lib.hid hbm
        rw [hL1, hL2] at HN H8
        rw [hL1] at HF
        clear hL1 hL2 hbm
        go_wp2_with (at_builtin; go_must (refine wpList_append_own _ rfl _ _ 29 rfl w1.heap.size 3 i0 _ 1 8 Try.underlying29 hi hz0 hz1 hz2 rfl (by decide) _ _ _ rfl HN.out.1 ⟨gl, 0, none⟩ m m L2 rfl HN.out.2.2.2 HN.out.2.1 HN.out.2.2.1 (by unfold maxLen; omega) (by omega) (by have := H8.out.1.size; omega) ?_); intro v' w8 hown hg _)
        go_roundw
        case rel =>
          refine ⟨e, by first | rfl | go_num, p2, ?_, ?_, ?_⟩
          · obtain ⟨_, _, _, _, _, _, q7⟩ := HF.out
            rcases q7 with h | h
            · exact .inr (.inr h)
            · exact .inr (.inl h.2)
          · exact (HF.out.1.trans (H8.out.1.mono HF.out.1.size)).grown hg (by have := H8.out.1.size; omega) (fun q e => (HF.out.2.1.lt q e).1)
          · rw [H8.out.2, ← HBM.out]; exact hown
        case measure => simp [RowKit.intOf]; omega
      · obtain rfl : n = b := by omega
        have HX := Lib.hid (And.intro hB (And.intro hb1 hrow))
        clear hB hb1 hrow
        go_wp2
        refine bodyPost_ret (results_tmp2 rfl _ _ _) rfl ?_
        exact ⟨_, rfl, bst HX.out.2.1 HX.out.1, ownsRow_base HX.out.2.2 HX.out.2.1.size⟩
end Go.Proofs.Ytclblidfamabdaa
