/- The levels of a row. -/
import Derived.Test.YtclblidfamabdaaBdY
import Derived.Test.YtclblidfamabdaaBdQ
set_option linter.unusedVariables false
set_option linter.unusedSimpArgs false
namespace Go.Proofs.Ytclblidfamabdaa
open Go.RowKit Go.Shelf Go.Lib Go.BigFrame
attribute [local go_sem] Oper.semAt_some

theorem wk_le (side m : Nat) (l : Nat → Nat) (hs : side ≤ 17) (hl : ∀ j, l j ≤ 17) (j : Nat) : B.wk side m l j ≤ 17 := by
  have h1 : ∀ j, B.v1 side l j ≤ 17 := fun j => v1_le side l hs j (hl j) (fun k _ => hl k)
  have h2 : ∀ j, B.v2 side (B.v1 side l) j ≤ 17 := fun j => by unfold B.v2; split; omega; exact h1 j
  have h3 : ∀ j, B.v3 (B.v2 side (B.v1 side l)) j ≤ 17 := fun j => by unfold B.v3; split; omega; exact h2 j
  have h4 : ∀ j, B.v4 m (B.v3 (B.v2 side (B.v1 side l))) j ≤ 17 := fun j => by
    induction j with
    | zero => exact h3 0
    | succ j ih => unfold B.v4; split; exact ih; exact h3 _
  have h5 : ∀ j, B.v5 m (B.v4 m (B.v3 (B.v2 side (B.v1 side l)))) j ≤ 17 := fun j => by
    unfold B.v5 B.ov
    split
    · unfold B.F5; split <;> omega
    · exact h4 j
  have h6 : ∀ j, B.v6 (B.v5 m (B.v4 m (B.v3 (B.v2 side (B.v1 side l))))) j ≤ 17 := fun j => by unfold B.v6; split; omega; exact h5 j
  unfold B.wk B.v7
  split
  · omega
  · exact h6 j
theorem sid_le (e : Nat) : B.sid e ≤ 17 := by unfold B.sid; split <;> omega
theorem itm_end (cl : Nat → Nat) (hup : B.Up cl) (frm tz : Nat) (h : frm ≤ tz) (hc : ∀ x, frm ≤ x → x < tz → cl x ≤ tz) : B.itm cl frm (B.cnt cl frm tz) = tz := by
  have hs := B.cnt_spec hup frm tz
  rcases Nat.eq_zero_or_pos (B.cnt cl frm tz) with h0 | h0
  · have := (hs 0)
    rw [h0] at this ⊢
    have h1 : ¬ B.itm cl frm 0 < tz := fun h => absurd (this.2 h) (by omega)
    have : B.itm cl frm 0 = frm := rfl
    omega
  · obtain ⟨k, hk⟩ : ∃ k, B.cnt cl frm tz = k + 1 := ⟨B.cnt cl frm tz - 1, by omega⟩
    have h1 := (hs k).1 (by omega)
    have h2 : ¬ B.itm cl frm (k + 1) < tz := fun h => absurd ((hs (k + 1)).2 h) (by omega)
    have h3 : B.itm cl frm (k + 1) = B.nx cl (B.itm cl frm k) := rfl
    have h4 := B.itm_ge hup frm k
    have h5 := hc (B.itm cl frm k) (by omega) h1
    rw [hk]
    unfold B.nx at h3
    split at h3 <;> omega
/-- The levels of the items, of so many; the rest as it was. -/
def lv1 (cl : Nat → Nat) (frm : Nat) (L : Nat → Nat) (lv : Nat → Int) (n k : Nat) : Int := if frm ≤ k ∧ B.loc cl frm k < n ∧ B.itm cl frm (B.loc cl frm k) = k then (L (B.loc cl frm k) : Int) else lv k
theorem lv1_step (cl : Nat → Nat) (hup : B.Up cl) (frm : Nat) (L : Nat → Nat) (lv : Nat → Int) (n k : Nat) : upd (lv1 cl frm L lv n) (B.itm cl frm n) (L n : Int) k = lv1 cl frm L lv (n + 1) k := by
  have hl : B.loc cl frm (B.itm cl frm n) = n := B.loc_is hup frm _ n (Nat.le_refl _) (B.itm_lt hup frm n (n + 1) (Nat.lt_succ_self n))
  have hg := B.itm_ge hup frm n
  unfold upd lv1
  by_cases h : k = B.itm cl frm n
  · rw [if_pos h, h, hl, if_pos ⟨by omega, by omega, rfl⟩]
  · rw [if_neg h]
    by_cases h2 : frm ≤ k ∧ B.loc cl frm k < n ∧ B.itm cl frm (B.loc cl frm k) = k
    · rw [if_pos h2, if_pos ⟨h2.1, by omega, h2.2.2⟩]
    · rw [if_neg h2, if_neg (fun h3 => h2 ⟨h3.1, by
        rcases Nat.lt_or_ge (B.loc cl frm k) n with h4 | h4
        · exact h4
        · have : B.loc cl frm k = n := by omega
          rw [this] at h3; exact absurd h3.2.2.symm h, h3.2.2⟩)]
theorem lv1_item (cl : Nat → Nat) (hup : B.Up cl) (frm : Nat) (L : Nat → Nat) (lv : Nat → Int) (m n : Nat) (h : n < m) : lv1 cl frm L lv m (B.itm cl frm n) = (L n : Int) := by
  have hl : B.loc cl frm (B.itm cl frm n) = n := B.loc_is hup frm _ n (Nat.le_refl _) (B.itm_lt hup frm n (n + 1) (Nat.lt_succ_self n))
  have hg := B.itm_ge hup frm n
  unfold lv1
  rw [hl, if_pos ⟨by omega, h, rfl⟩]
theorem lv1_out (cl : Nat → Nat) (hup : B.Up cl) (frm : Nat) (L : Nat → Nat) (lv : Nat → Int) (m k : Nat) (h : k < frm ∨ B.itm cl frm m ≤ k) : lv1 cl frm L lv m k = lv k := by
  unfold lv1
  refine if_neg (fun h2 => ?_)
  rcases h with h | h
  · omega
  · have h3 := B.loc_spec hup frm k h2.1
    have : ∀ d, B.itm cl frm (B.loc cl frm k + 1) ≤ B.itm cl frm (B.loc cl frm k + 1 + d) := fun d => by
      rcases Nat.eq_zero_or_pos d with h0 | h0
      · subst h0; exact Nat.le_refl _
      · exact Nat.le_of_lt (B.itm_lt hup frm _ _ (by omega))
    have h4 := this (m - (B.loc cl frm k + 1))
    rw [show B.loc cl frm k + 1 + (m - (B.loc cl frm k + 1)) = m by omega] at h4
    omega
/-- What holds in the last loop. -/
def lv2 (LEV : Nat → Nat) (frm x : Nat) (l1 : Nat → Int) (k : Nat) : Int := if frm ≤ k ∧ k < x then (LEV k : Int) else l1 k

set_option maxRecDepth 1000000 in
set_option maxHeartbeats 16000000 in
theorem row_core (N : Nat) (ch cl : Nat → Nat) (hN : N ≤ 4194304) (hK : ClOk N ch cl) (f : Nat) (xb gl : Nat) (fv cv clv : Value) (frm tz e : Nat) (W : World) (lv : Nat → Int) (hP : frm < tz → RowP N ch cl f) (hf : tz - frm ≤ f + 1) (hft : frm ≤ tz) (htN : tz ≤ N) (hcr : ∀ x, frm ≤ x → x < tz → cl x ≤ tz) (he : e + 2 * (tz - frm) ≤ 16777216) (hX : Px W xb N gl fv cv clv ch cl) (hL : Rw W gl lv N) :
    Calls Try.prog 35 #[.pointer (some ⟨xb, 0, none⟩), .int .i64 (frm : Int), .int .i64 (tz : Int), .int .i64 (e : Int)] W fun en w' => (∃ v, en = .returned v) ∧ Fr (fun k => k ≠ gl) W w' ∧ Rw w' gl (fun k => if frm ≤ k ∧ k < tz then (B.lev ch cl (f + 1) frm tz e k : Int) else lv k) N := by
  obtain ⟨i0, hi, hz0, hz1, hz2⟩ := info_parts Try.infoIn
  have RO := Lib.hid (row_any frm tz N clv cl W hN htN (by omega) hK.up hK.le hX.rcl)
  have hcnt := B.cnt_le hK.up frm tz
  have hspec := B.cnt_spec hK.up frm tz
  have hend := itm_end cl hK.up frm tz hft hcr
  have HLEV := Lib.hid (And.intro (lev_item ch cl hK.up f frm tz e) (lev_in ch cl hK.up f frm tz e))
  obtain ⟨cnt, hcn⟩ : ∃ c, B.cnt cl frm tz = c := ⟨_, rfl⟩
  rw [hcn] at RO hcnt hspec hend HLEV
  have hmk : ∀ W : World, (Instr.makeSlice 29 (.int .i64 (cnt : Int)) (.int .i64 (cnt : Int))).run Try.prog W = .ok (.slice (some ⟨W.heap.size, 0, none⟩) cnt cnt) (W.alloc (.cells (madeCells (Value.int .i64 0).cells cnt) 3)) := fun W => by
    have := run_make (P := Try.prog) W 29 3 i0 _ Try.underlying29 hi hz0 .i64 .i64 (cnt : Int) (cnt : Int) (by omega) (by omega) (by rw [hz2]; omega) (by omega)
    rw [this, hz1, Int.toNat_natCast, Nat.mul_one]
  have HIT : Hid (∀ n, n < cnt → B.itm cl frm n < N ∧ frm ≤ B.itm cl frm n ∧ B.itm cl frm n < tz) := Lib.hid (fun n h => by
    have h1 := (hspec n).1 h
    have h2 := B.itm_ge hK.up frm n
    omega)
  have x2 := hX.cells.2.2.1
  have HX := Lib.hid (And.intro hX hL)
  have HK := Lib.hid hK
  have HCR := Lib.hid hcr
  have HP := Lib.hid hP
  have HSP := Lib.hid hspec
  have HEN := Lib.hid hend
  obtain ⟨sd, hsd⟩ : ∃ s, B.sid e = s := ⟨_, rfl⟩
  have hsdl : sd ≤ 17 := by rw [← hsd]; exact sid_le e
  have HSD := Lib.hid hsd
  have hpar : (e % 2 = 1 ∧ sd = 15) ∨ (e % 2 = 0 ∧ sd = 17) := by
    rw [← hsd]; unfold B.sid
    by_cases h : e % 2 = 1
    · rw [if_pos h]; omega
    · rw [if_neg h]; omega
  obtain ⟨b, hb⟩ : ∃ b, (((e : Int) % 2) == 1) = b := ⟨_, rfl⟩
  have HB : Hid ((b = true ∧ e % 2 = 1 ∧ sd = 15) ∨ (b = false ∧ e % 2 = 0 ∧ sd = 17)) := Lib.hid (by
    rw [← hb]
    rcases hpar with ⟨h1, h2⟩ | ⟨h1, h2⟩
    · left; refine ⟨?_, h1, h2⟩; simp; omega
    · right; refine ⟨?_, h1, h2⟩; simp; omega)
  clear hX hL hK hcr hP hspec hend hsd hpar hcn
  go_enter Try.func35, Try.ntmps35
  go_upto_if 27 with (go_at_call 43; (with_reducible refine RO.out.mono ?_); rintro en w1 ⟨vo, rfl, hb1, hr1⟩)
  go_cut [9] (fun s9 wx => s9 = .int .i64 (sd : Int) ∧ wx = w1)
  case first =>
    rcases HB.out with ⟨rfl, _, h2⟩ | ⟨rfl, _, h2⟩
    · subst h2
      go_wp2_with fail
      go_meet
      exact ⟨rfl, rfl⟩
    · subst h2
      go_wp2_with fail
      go_meet
      exact ⟨rfl, rfl⟩
  case rest =>
    obtain ⟨rfl, rfl⟩ := hcut
    obtain ⟨wA, hwA⟩ : ∃ x, x = wc := ⟨_, rfl⟩
    subst hwA
    have hWs := hb1.size
    have hrl := hr1.lt
    have hrd := row_rd hr1
    obtain ⟨OA, oc, rfl, hoc, hOA⟩ := ownN_form hr1
    have hxb := (Array.getElem?_eq_some_iff.1 HX.out.1.box).1
    have hgl := HX.out.2.lt
    have KF : Hid (∀ wx, Fr (fun k => k ≠ wA.heap.size) (wA.alloc (.cells (madeCells (Value.int .i64 0).cells cnt) 3)) wx → Px wx xb N gl fv cv clv ch cl ∧ Rw wx gl lv N ∧ Rd wx (.slice OA cnt oc) (itI cl frm) cnt) := Lib.hid (fun wx h => by
      have hf : Fr (fun k => k < wA.heap.size) wA wx := ((Fr.refl _ _).alloc _).trans (h.mono (fun k _ hk => by show k ≠ wA.heap.size; omega))
      have hf2 : Fr (fun k => k < W.heap.size) W wx := (Fr.of_below hb1 (fun k _ h => h)).trans (hf.mono (fun k _ hk => by omega))
      refine ⟨?_, HX.out.2.fr hf2 hgl, hrd.fr hf (fun q _ h => h)⟩
      have h0 := HX.out.1
      exact ⟨(hf2.block _ hxb hxb).trans h0.box, h0.rc.fr hf2 (fun q _ h => h), h0.rcl.fr hf2 (fun q _ h => h), h0.ne⟩)
    have HM0 := Lib.hid (make_rw wA cnt)
    have HB1 := Lib.hid hb1
    have HRL := Lib.hid hrl
    have HOA := Lib.hid hOA
    obtain ⟨MC, hMC⟩ : ∃ M, madeCells (Value.int .i64 0).cells cnt = M := ⟨_, rfl⟩
    rw [hMC] at hmk KF HM0
    clear hb1 hr1 hrl hrd hOA hMC hb
    go_upto_block 0 with fail
    go_cut [33] (fun _ wx => Fr (fun k => k ≠ wA.heap.size) (wA.alloc (.cells MC 3)) wx ∧ Rw wx wA.heap.size (fun n => (ch (B.itm cl frm n) : Int)) cnt)
    case first =>
      go_wp2
      go_loopw [33] (fun nv wx => ∃ n : Nat, nv = .int .i64 (n : Int) ∧ n ≤ cnt ∧ Fr (fun k => k ≠ wA.heap.size) (wA.alloc (.cells MC 3)) wx ∧ Rw wx wA.heap.size (fun j => if j < n then (ch (B.itm cl frm j) : Int) else 0) cnt) (fun nv _ => cnt - (intOf nv).toNat)
      case atStart => exact ⟨0, rfl, Nat.zero_le _, Fr.refl _ _, HM0.out.congr (fun j _ => by rw [if_neg (Nat.not_lt_zero _)])⟩
      case round =>
        obtain ⟨n, rfl, hn, hF, hRw⟩ := hrel
        by_cases hlt : n < cnt
        · obtain ⟨k1, k2, k3⟩ := KF.out _ hF
          have x1 := k1.cells.2.1
          obtain ⟨og, rfl⟩ := HOA.out (by omega)
          obtain ⟨_, _, ho, _, ho2⟩ := k3
          cases ho
          obtain ⟨_, _, ho3, ho4⟩ := ho2 (by omega)
          cases ho3
          have o0 := ho4 n hlt
          rw [Nat.zero_add] at o0
          obtain ⟨CA, cc, rfl, hcc, hc1⟩ := k1.rc
          have hiN := (HIT.out n hlt).1
          obtain ⟨cg, co, rfl, hcg⟩ := hc1 (by omega)
          have c0 : wr.cell? ⟨cg, co + B.itm cl frm n, none⟩ = some (.int .i64 (ch (B.itm cl frm n) : Int)) := hcg _ hiN
          obtain ⟨i, hii⟩ : ∃ i, B.itm cl frm n = i := ⟨_, rfl⟩
          have o1 : wr.cell? ⟨og, n, none⟩ = some (.int .i64 (i : Int)) := by rw [o0]; unfold itI; rw [hii]
          rw [hii] at c0 hiN
          obtain ⟨x, hx⟩ : ∃ x, ch i = x := ⟨_, rfl⟩
          rw [hx] at c0
          have f0 := (hRw.at hlt).2
          obtain ⟨u0, g0⟩ : ∃ u, wr.cell? ⟨wA.heap.size, n, none⟩ = some u := ⟨_, (hRw.at hlt).1⟩
          have HV := Lib.hid (show (x : Int) = (ch (B.itm cl frm n) : Int) by rw [hii, hx])
          have HF := Lib.hid (And.intro hF hRw)
          clear k1 k2 o0 ho4 hc1 hcg hii hx hF hRw
          go_wp2
          go_roundw
          case rel =>
            refine ⟨n + 1, by go_num, hlt, HF.out.1.setCell _ _ (fun _ h => h rfl), (HF.out.2.set n (x : Int)).congr (fun j hj => ?_)⟩
            unfold upd
            by_cases h : j = n
            · subst h; rw [if_pos rfl, if_pos (by omega), HV.out]
            · rw [if_neg h]
              show (if j < n then (ch (B.itm cl frm j) : Int) else 0) = _
              by_cases h2 : j < n
              · rw [if_pos h2, if_pos (by omega)]
              · rw [if_neg h2, if_neg (by omega)]
          case measure => simp [intOf]; omega
        · obtain rfl : cnt = n := by omega
          have HF := Lib.hid (And.intro hF hRw)
          clear hF hRw
          go_wp2
          go_meet
          exact ⟨HF.out.1, HF.out.2.congr (fun j hj => by rw [if_pos hj])⟩
    case rest =>
      obtain ⟨hF1, hR1⟩ := hcut
      have hgkl := hR1.lt
      have WKc := Lib.hid (fun W' (h : Rw W' wA.heap.size (fun n => (ch (B.itm cl frm n) : Int)) cnt) => weak_any wA.heap.size cnt sd (fun n => ch (B.itm cl frm n)) W' (by omega) hsdl (fun j _ => HK.out.ch _) h)
      have STc := Lib.hid (fun W' (h : Rw W' wA.heap.size (fun n => (B.wk sd cnt (fun n => ch (B.itm cl frm n)) n : Int)) cnt) => settled_any wA.heap.size cnt sd (B.wk sd cnt (fun n => ch (B.itm cl frm n))) W' (by omega) (fun j _ => wk_le sd cnt _ hsdl (fun j => HK.out.ch _) j) h)
      have HF1 := Lib.hid (And.intro hF1 hR1)
      clear hF1 hR1 HM0 hmk
      go_upto_block 2 with (first
        | (go_at_call 59; (with_reducible refine (WKc.out _ HF1.out.2).mono ?_); rintro en w2 ⟨⟨v2, rfl⟩, hf2, hr2⟩)
        | (go_at_call 60; (with_reducible refine (STc.out _ hr2).mono ?_); rintro en w3 ⟨⟨v3, rfl⟩, hf3, hr3⟩))
      obtain ⟨LV, hLV⟩ : ∃ L : Nat → Nat, (fun n => B.lvl e (B.res sd cnt (fun n => ch (B.itm cl frm n)) n)) = L := ⟨_, rfl⟩
      have HLV := Lib.hid hLV
      have hF3 := (HF1.out.1.trans hf2).trans hf3
      obtain ⟨q1, q2, q3⟩ := KF.out _ hF3
      have hobl : ∀ q, (Value.slice OA cnt oc).ownBlock = some q → q ≠ gl := fun q hq => by have := (HRL.out q hq).1; omega
      have KG : Hid (∀ wx, Fr (fun k => k ≠ gl) w3 wx → Px wx xb N gl fv cv clv ch cl ∧ Rd wx (.slice OA cnt oc) (itI cl frm) cnt ∧ Rw wx wA.heap.size (fun n => (B.res sd cnt (fun n => ch (B.itm cl frm n)) n : Int)) cnt) := Lib.hid (fun wx h => ⟨q1.fr h, q3.fr h (fun q e _ => hobl q e), hr3.fr h (by show wA.heap.size ≠ gl; omega)⟩)
      have H3 := Lib.hid (And.intro hF3 q2)
      clear hLV hF3 q1 q2 q3 hobl hf2 hf3 hr2 hr3 KF WKc STc
      go_cut [57] (fun _ wx => Fr (fun k => k ≠ gl) w3 wx ∧ Rw wx gl (lv1 cl frm LV lv cnt) N)
      case first =>
        go_wp2
        go_loopw [57] (fun nv wx => ∃ n : Nat, nv = .int .i64 (n : Int) ∧ n ≤ cnt ∧ Fr (fun k => k ≠ gl) w3 wx ∧ Rw wx gl (lv1 cl frm LV lv n) N) (fun nv _ => cnt - (intOf nv).toNat)
        case atStart => exact ⟨0, rfl, Nat.zero_le _, Fr.refl _ _, H3.out.2.congr (fun j _ => by unfold lv1; rw [if_neg (fun h => absurd h.2.1 (Nat.not_lt_zero _))])⟩
        case round =>
          obtain ⟨n, rfl, hn, hF, hRw⟩ := hrel
          by_cases hlt : n < cnt
          · obtain ⟨k1, k2, k3⟩ := KG.out _ hF
            have x3 := k1.cells.2.2.2
            obtain ⟨og, rfl⟩ := HOA.out (by omega)
            obtain ⟨_, _, ho, _, ho2⟩ := k2
            cases ho
            obtain ⟨_, _, ho3, ho4⟩ := ho2 (by omega)
            cases ho3
            have o0 := ho4 n hlt
            rw [Nat.zero_add] at o0
            have hiN := (HIT.out n hlt).1
            obtain ⟨i, hii⟩ : ∃ i, B.itm cl frm n = i := ⟨_, rfl⟩
            have o1 : wr.cell? ⟨og, n, none⟩ = some (.int .i64 (i : Int)) := by rw [o0]; unfold itI; rw [hii]
            rw [hii] at hiN
            have r0 := (k3.at hlt).1
            have hLn : LV n = B.lvl e (B.res sd cnt (fun n => ch (B.itm cl frm n)) n) := by rw [← HLV.out]
            obtain ⟨x, hx⟩ : ∃ x, B.res sd cnt (fun n => ch (B.itm cl frm n)) n = x := ⟨_, rfl⟩
            rw [hx] at r0 hLn
            have f0 := (hRw.at hiN).2
            obtain ⟨u0, g0⟩ : ∃ u, wr.cell? ⟨gl, i, none⟩ = some u := ⟨_, (hRw.at hiN).1⟩
            have HF := Lib.hid (And.intro hF hRw)
            have HII := Lib.hid hii
            have HLn := Lib.hid hLn
            clear k1 k3 o0 ho4 hF hRw hii hx hLn
            have NEXT : Hid (∀ y : Int, y = (LV n : Int) → Rw (wr.setCell ⟨gl, i, none⟩ (.int .i64 y)) gl (lv1 cl frm LV lv (n + 1)) N) := Lib.hid (fun y hy => by
              subst hy
              refine (HF.out.2.set i _).congr (fun j _ => ?_)
              rw [← HII.out]
              exact lv1_step cl HK.out.up frm LV lv n j)
            rcases HB.out with ⟨_, h1, h2⟩ | ⟨_, h1, h2⟩
            · have p1 : ((e : Int) % 2 == 1) = true := by simp; omega
              have p0 : ((e : Int) % 2 == 0) = false := by simp; omega
              by_cases hx15 : x = 15
              · subst hx15
                have HV := Lib.hid (show LV n = e by rw [HLn.out]; unfold B.lvl; rw [if_pos h1, if_pos rfl])
                clear h1 h2
                go_wp2
                go_roundw
                case rel => exact ⟨n + 1, by go_num, hlt, HF.out.1.setCell _ _ (fun _ h => h rfl), NEXT.out _ (by rw [HV.out])⟩
                case measure => simp [intOf]; omega
              · have HV := Lib.hid (show LV n = e + 1 by rw [HLn.out]; unfold B.lvl; rw [if_pos h1, if_neg hx15])
                have b15 : ((x : Int) != 15) = true := by simp; omega
                clear h1 h2
                go_wp2
                go_roundw
                case rel => exact ⟨n + 1, by go_num, hlt, HF.out.1.setCell _ _ (fun _ h => h rfl), NEXT.out _ (by rw [HV.out]; go_num)⟩
                case measure => simp [intOf]; omega
            · have p1 : ((e : Int) % 2 == 1) = false := by simp; omega
              have p0 : ((e : Int) % 2 == 0) = true := by simp; omega
              have h1' : ¬ e % 2 = 1 := by omega
              by_cases hx15 : x = 15
              · subst hx15
                have HV := Lib.hid (show LV n = e + 1 by rw [HLn.out]; unfold B.lvl; rw [if_neg h1', if_pos rfl])
                clear h1 h2 h1'
                go_wp2
                go_roundw
                case rel => exact ⟨n + 1, by go_num, hlt, HF.out.1.setCell _ _ (fun _ h => h rfl), NEXT.out _ (by rw [HV.out]; go_num)⟩
                case measure => simp [intOf]; omega
              · have b15 : ((x : Int) == 15) = false := by simp; omega
                by_cases hx17 : x = 17
                · subst hx17
                  have HV := Lib.hid (show LV n = e by rw [HLn.out]; unfold B.lvl; rw [if_neg h1', if_neg hx15, if_pos rfl])
                  clear h1 h2 h1'
                  go_wp2
                  go_roundw
                  case rel => exact ⟨n + 1, by go_num, hlt, HF.out.1.setCell _ _ (fun _ h => h rfl), NEXT.out _ (by rw [HV.out])⟩
                  case measure => simp [intOf]; omega
                · have b17 : ((x : Int) != 17) = true := by simp; omega
                  have HV := Lib.hid (show LV n = e + 2 by rw [HLn.out]; unfold B.lvl; rw [if_neg h1', if_neg hx15, if_neg hx17])
                  clear h1 h2 h1'
                  go_wp2
                  go_roundw
                  case rel => exact ⟨n + 1, by go_num, hlt, HF.out.1.setCell _ _ (fun _ h => h rfl), NEXT.out _ (by rw [HV.out]; go_num)⟩
                  case measure => simp [intOf]; omega
          · obtain rfl : cnt = n := by omega
            have HF := Lib.hid (And.intro hF hRw)
            clear hF hRw
            go_wp2
            go_meet
            exact HF.out
      case rest =>
        obtain ⟨hF4, hR4⟩ := hcut
        have H4 := Lib.hid (And.intro hF4 hR4)
        clear hF4 hR4
        have HLI : Hid (∀ n, n < cnt → B.lev ch cl (f + 1) frm tz e (B.itm cl frm n) = LV n) := Lib.hid (fun n _ => by rw [HLEV.out.1 n, ← HLV.out, HSD.out])
        have HLN := Lib.hid HLEV.out.2
        obtain ⟨LEV, hLEV⟩ : ∃ L : Nat → Nat, B.lev ch cl (f + 1) frm tz e = L := ⟨_, rfl⟩
        rw [hLEV] at HLI HLN
        have HLEV2 := Lib.hid hLEV
        clear hLEV HLEV
        go_wp2
        go_loopw [106] (fun nv wx => ∃ n : Nat, nv = .int .i64 (n : Int) ∧ n ≤ cnt ∧ Fr (fun k => k ≠ gl) w3 wx ∧ Rw wx gl (lv2 LEV frm (B.itm cl frm n) (lv1 cl frm LV lv cnt)) N) (fun nv _ => cnt - (intOf nv).toNat)
        case atStart => exact ⟨0, rfl, Nat.zero_le _, H4.out.1, H4.out.2.congr (fun j _ => by unfold lv2; rw [if_neg (fun h => by have h0 : B.itm cl frm 0 = frm := rfl; omega)])⟩
        case round =>
          obtain ⟨n, rfl, hn, hF, hRw⟩ := hrel
          by_cases hlt : n < cnt
          · obtain ⟨k1, k2, k3⟩ := KG.out _ hF
            have x2' := k1.cells.2.2.1
            obtain ⟨og, rfl⟩ := HOA.out (by omega)
            obtain ⟨_, _, ho, _, ho2⟩ := k2
            cases ho
            obtain ⟨_, _, ho3, ho4⟩ := ho2 (by omega)
            cases ho3
            have o0 := ho4 n hlt
            rw [Nat.zero_add] at o0
            obtain ⟨hiN, hif, hit⟩ := HIT.out n hlt
            obtain ⟨i, hii⟩ : ∃ i, B.itm cl frm n = i := ⟨_, rfl⟩
            have o1 : wr.cell? ⟨og, n, none⟩ = some (.int .i64 (i : Int)) := by rw [o0]; unfold itI; rw [hii]
            have hLi := HLI.out n hlt
            have hl1 := lv1_item cl HK.out.up frm LV lv cnt n hlt
            have hnx : B.itm cl frm (n + 1) = B.nx cl i := by rw [← hii]; rfl
            have hin : ∀ k, i < k → k < B.nx cl i → LEV k = B.lev ch cl f (i + 1) (cl i) (B.inn ch cl e i) k := fun k h1 h2 => by
              have := HLN.out n k (by rw [hii]; exact h1) (by rw [hnx]; exact h2)
              rw [hii] at this
              exact this
            have hci := HCR.out i (by omega) (by omega)
            rw [hii] at hiN hif hit hLi hl1 hRw
            have hcli := HK.out.up i
            have ISO := Lib.hid (fun (h : cl i ≠ 0) => iso_of_row N ch cl hN HK.out f (HP.out (by omega)) xb gl fv cv clv i e wr _ hiN h (by omega) (by omega) k1 hRw)
            obtain ⟨LA, lc, rfl, hlc, hl⟩ := k1.rcl
            obtain ⟨lg, lo, rfl, hlg⟩ := hl (by omega)
            have l0 := hlg i hiN
            have HF := Lib.hid (And.intro hF hRw)
            have HNX := Lib.hid hnx
            have HLL := Lib.hid (And.intro hLi (And.intro hl1 hin))
            clear k1 k3 o0 ho4 hF hRw hii hLi hl1 hnx hin hl hlg hci hcli
            by_cases hc0 : cl i = 0
            · rw [show clI cl i = -1 from if_pos hc0] at l0
              have hx : B.nx cl i = i + 1 := if_pos hc0
              have HXN := Lib.hid hx
              clear ISO hc0 hx
              go_wp2
              go_roundw
              case rel =>
                refine ⟨n + 1, by go_num, hlt, HF.out.1, HF.out.2.congr (fun k _ => ?_)⟩
                rw [HNX.out, HXN.out]
                unfold lv2
                by_cases h1 : frm ≤ k ∧ k < i
                · rw [if_pos h1, if_pos ⟨h1.1, by omega⟩]
                · rw [if_neg h1]
                  by_cases h2 : k = i
                  · subst h2; rw [if_pos ⟨hif, by omega⟩, HLL.out.2.1, HLL.out.1]
                  · rw [if_neg (by omega)]
              case measure => simp [intOf]; omega
            · have IS := Lib.hid (ISO.out hc0)
              obtain ⟨q, hq⟩ : ∃ q, cl i = q := ⟨_, rfl⟩
              have hup := HK.out.up i hc0
              rw [show clI cl i = (cl i : Int) from if_neg hc0, hq] at l0
              have hx : B.nx cl i = cl i := if_neg hc0
              have HXN := Lib.hid hx
              have HQ := Lib.hid hq
              rw [hq] at hup
              clear ISO hc0 hx hq
              go_wp2_with (go_at_call 61; (with_reducible refine IS.out.mono ?_); rintro en w5 ⟨⟨v5, rfl⟩, hf5, hr5⟩; have HR5 := Lib.hid (And.intro hf5 hr5); clear hf5 hr5)
              go_roundw
              case rel =>
                refine ⟨n + 1, by go_num, hlt, HF.out.1.trans HR5.out.1, HR5.out.2.congr (fun k _ => ?_)⟩
                rw [HNX.out, HXN.out]
                have hL := HLL.out.2.2 k
                rw [HXN.out] at hL
                rw [HQ.out] at hL ⊢
                unfold lv2
                by_cases h1 : i + 1 ≤ k ∧ k < q
                · rw [if_pos h1, if_pos ⟨by omega, by omega⟩, hL (by omega) h1.2]
                · rw [if_neg h1]
                  by_cases h2 : frm ≤ k ∧ k < i
                  · rw [if_pos h2, if_pos ⟨h2.1, by omega⟩]
                  · rw [if_neg h2]
                    by_cases h3 : k = i
                    · subst h3; rw [if_pos ⟨hif, by omega⟩, HLL.out.2.1, HLL.out.1]
                    · rw [if_neg (by omega)]
              case measure => simp [intOf]; omega
          · obtain rfl : cnt = n := by omega
            have HF := Lib.hid (And.intro hF hRw)
            clear hF hRw
            go_wp2
            go_end0
            refine ⟨⟨_, rfl⟩, ?_, HF.out.2.congr (fun k _ => ?_)⟩
            · have h2 : Fr (fun k => k < W.heap.size) W w3 := (Fr.of_below HB1.out (fun k _ h => h)).trans (((Fr.refl (fun k => k < W.heap.size) wA).alloc (.cells MC 3)).trans (H3.out.1.mono (fun k _ hk => by show k ≠ wA.heap.size; omega)))
              exact (h2.mono (fun k hk _ => hk)).trans HF.out.1
            · rw [HEN.out, ← HLEV2.out]
              unfold lv2
              by_cases h1 : frm ≤ k ∧ k < tz
              · rw [if_pos h1]
                show _ = if frm ≤ k ∧ k < tz then _ else _
                rw [if_pos h1]
              · rw [if_neg h1, lv1_out cl HK.out.up frm LV lv cnt k (by rw [HEN.out]; omega)]
                show _ = if frm ≤ k ∧ k < tz then _ else _
                rw [if_neg h1]
theorem rowP_all (N : Nat) (ch cl : Nat → Nat) (hN : N ≤ 4194304) (hK : ClOk N ch cl) : ∀ f, RowP N ch cl f := by
  intro f
  induction f with
  | zero =>
    intro xb gl fv cv clv frm tz e W lv hf hft htN hcr he hX hL
    refine (row_core N ch cl hN hK 0 xb gl fv cv clv frm tz e W lv (fun h => absurd h (by omega)) (by omega) hft htN hcr he hX hL).mono ?_
    rintro en w' ⟨h1, h2, h3⟩
    exact ⟨h1, h2, h3.congr (fun k _ => by rw [if_neg (by omega), if_neg (by omega)])⟩
  | succ f ih =>
    intro xb gl fv cv clv frm tz e W lv hf hft htN hcr he hX hL
    exact row_core N ch cl hN hK f xb gl fv cv clv frm tz e W lv (fun _ => ih) hf hft htN hcr he hX hL
end Go.Proofs.Ytclblidfamabdaa
