/- The levels of a row. -/
import Derived.Test.YtclblidfamabdaaG4
set_option linter.unusedVariables false
set_option linter.unusedSimpArgs false
namespace Go.Proofs.Ytclblidfamabdaa
open Go.RowKit Go.Shelf Go.Lib Go.BigFrame
attribute [local go_sem] Oper.semAt_some

theorem wk_le (side m : Nat) (l : Nat → Nat) (hs : side ≤ 17) (hl : ∀ j, l j ≤ 17) (j : Nat) : B.wk side m l j ≤ 17 := by
  have h1 : ∀ j, B.v1 side l j ≤ 17 := fun j => v1_le side l hs j (hl j) (fun k _ => hl k)
  have h2 : ∀ j, B.v2 side (B.v1 side l) j ≤ 17 := fun j => by unfold B.v2; split; omega; exact h1 j
  have h3 : ∀ j, B.v3 (B.v2 side (B.v1 side l)) j ≤ 17 := fun j => by unfold B.v3; split; omega; exact h2 j
  have h4 : ∀ j, B.v4 m (B.v3 (B.v2 side (B.v1 side l))) j ≤ 17 := fun j => by
    induction j with
    | zero => exact h3 0
    | succ j ih => unfold B.v4; split; exact ih; exact h3 _
  have h5 : ∀ j, B.v5 m (B.v4 m (B.v3 (B.v2 side (B.v1 side l)))) j ≤ 17 := fun j => by
    unfold B.v5 B.ov
    split
    · unfold B.F5; split <;> omega
    · exact h4 j
  have h6 : ∀ j, B.v6 (B.v5 m (B.v4 m (B.v3 (B.v2 side (B.v1 side l))))) j ≤ 17 := fun j => by unfold B.v6; split; omega; exact h5 j
  unfold B.wk B.v7
  split
  · omega
  · exact h6 j
theorem sid_le (e : Nat) : B.sid e ≤ 17 := by unfold B.sid; split <;> omega
theorem itm_end (cl : Nat → Nat) (hup : B.Up cl) (frm tz : Nat) (h : frm ≤ tz) (hc : ∀ x, frm ≤ x → x < tz → cl x ≤ tz) : B.itm cl frm (B.cnt cl frm tz) = tz := by
  have hs := B.cnt_spec hup frm tz
  rcases Nat.eq_zero_or_pos (B.cnt cl frm tz) with h0 | h0
  · have := (hs 0)
    rw [h0] at this ⊢
    have h1 : ¬ B.itm cl frm 0 < tz := fun h => absurd (this.2 h) (by omega)
    have : B.itm cl frm 0 = frm := rfl
    omega
  · obtain ⟨k, hk⟩ : ∃ k, B.cnt cl frm tz = k + 1 := ⟨B.cnt cl frm tz - 1, by omega⟩
    have h1 := (hs k).1 (by omega)
    have h2 : ¬ B.itm cl frm (k + 1) < tz := fun h => absurd ((hs (k + 1)).2 h) (by omega)
    have h3 : B.itm cl frm (k + 1) = B.nx cl (B.itm cl frm k) := rfl
    have h4 := B.itm_ge hup frm k
    have h5 := hc (B.itm cl frm k) (by omega) h1
    rw [hk]
    unfold B.nx at h3
    split at h3 <;> omega
/-- The levels of the items, of so many; the rest as it was. -/
def lv1 (cl : Nat → Nat) (frm : Nat) (L : Nat → Nat) (lv : Nat → Int) (n k : Nat) : Int := if frm ≤ k ∧ B.loc cl frm k < n ∧ B.itm cl frm (B.loc cl frm k) = k then (L (B.loc cl frm k) : Int) else lv k
theorem lv1_step (cl : Nat → Nat) (hup : B.Up cl) (frm : Nat) (L : Nat → Nat) (lv : Nat → Int) (n k : Nat) : upd (lv1 cl frm L lv n) (B.itm cl frm n) (L n : Int) k = lv1 cl frm L lv (n + 1) k := by
  have hl : B.loc cl frm (B.itm cl frm n) = n := B.loc_is hup frm _ n (Nat.le_refl _) (B.itm_lt hup frm n (n + 1) (Nat.lt_succ_self n))
  have hg := B.itm_ge hup frm n
  unfold upd lv1
  by_cases h : k = B.itm cl frm n
  · rw [if_pos h, h, hl, if_pos ⟨by omega, by omega, rfl⟩]
  · rw [if_neg h]
    by_cases h2 : frm ≤ k ∧ B.loc cl frm k < n ∧ B.itm cl frm (B.loc cl frm k) = k
    · rw [if_pos h2, if_pos ⟨h2.1, by omega, h2.2.2⟩]
    · rw [if_neg h2, if_neg (fun h3 => h2 ⟨h3.1, by
        rcases Nat.lt_or_ge (B.loc cl frm k) n with h4 | h4
        · exact h4
        · have : B.loc cl frm k = n := by omega
          rw [this] at h3; exact absurd h3.2.2.symm h, h3.2.2⟩)]
theorem lv1_item (cl : Nat → Nat) (hup : B.Up cl) (frm : Nat) (L : Nat → Nat) (lv : Nat → Int) (m n : Nat) (h : n < m) : lv1 cl frm L lv m (B.itm cl frm n) = (L n : Int) := by
  have hl : B.loc cl frm (B.itm cl frm n) = n := B.loc_is hup frm _ n (Nat.le_refl _) (B.itm_lt hup frm n (n + 1) (Nat.lt_succ_self n))
  have hg := B.itm_ge hup frm n
  unfold lv1
  rw [hl, if_pos ⟨by omega, h, rfl⟩]
theorem lv1_out (cl : Nat → Nat) (hup : B.Up cl) (frm : Nat) (L : Nat → Nat) (lv : Nat → Int) (m k : Nat) (h : k < frm ∨ B.itm cl frm m ≤ k) : lv1 cl frm L lv m k = lv k := by
  unfold lv1
  refine if_neg (fun h2 => ?_)
  rcases h with h | h
  · omega
  · have h3 := B.loc_spec hup frm k h2.1
    have : ∀ d, B.itm cl frm (B.loc cl frm k + 1) ≤ B.itm cl frm (B.loc cl frm k + 1 + d) := fun d => by
      rcases Nat.eq_zero_or_pos d with h0 | h0
      · subst h0; exact Nat.le_refl _
      · exact Nat.le_of_lt (B.itm_lt hup frm _ _ (by omega))
    have h4 := this (m - (B.loc cl frm k + 1))
    rw [show B.loc cl frm k + 1 + (m - (B.loc cl frm k + 1)) = m by omega] at h4
    omega
/-- What holds in the last loop. -/
def lv2 (LEV : Nat → Nat) (frm x : Nat) (l1 : Nat → Int) (k : Nat) : Int := if frm ≤ k ∧ k < x then (LEV k : Int) else l1 k

set_option maxRecDepth 1000000 in
set_option maxHeartbeats 16000000 in
theorem row_core (N : Nat) (ch cl : Nat → Nat) (hN : N ≤ 4194304) (hK : ClOk N ch cl) (f : Nat) (xb gl : Nat) (fv cv clv : Value) (frm tz e : Nat) (W : World) (lv : Nat → Int) (hP : frm < tz → RowP N ch cl f) (hf : tz - frm ≤ f + 1) (hft : frm ≤ tz) (htN : tz ≤ N) (hcr : ∀ x, frm ≤ x → x < tz → cl x ≤ tz) (he : e + 2 * (tz - frm) ≤ 16777216) (hX : Px W xb N gl fv cv clv ch cl) (hL : Rw W gl lv N) :
    Calls Try.prog 35 #[.pointer (some ⟨xb, 0, none⟩), .int .i64 (frm : Int), .int .i64 (tz : Int), .int .i64 (e : Int)] W fun en w' => (∃ v, en = .returned v) ∧ Fr (fun k => k ≠ gl) W w' ∧ Rw w' gl (fun k => if frm ≤ k ∧ k < tz then (B.lev ch cl (f + 1) frm tz e k : Int) else lv k) N := by
  obtain ⟨i0, hi, hz0, hz1, hz2⟩ := info_parts Try.infoIn
  have RO := Lib.hid (row_any frm tz N clv cl W hN htN (by omega) hK.up hK.le hX.rcl)
  have hcnt := B.cnt_le hK.up frm tz
  have hspec := B.cnt_spec hK.up frm tz
  have hend := itm_end cl hK.up frm tz hft hcr
  have HLEV := Lib.hid (And.intro (lev_item ch cl hK.up f frm tz e) (lev_in ch cl hK.up f frm tz e))
  obtain ⟨cnt, hcn⟩ : ∃ c, B.cnt cl frm tz = c := ⟨_, rfl⟩
  rw [hcn] at RO hcnt hspec hend HLEV
  have hmk : ∀ W : World, (Instr.makeSlice 29 (.int .i64 (cnt : Int)) (.int .i64 (cnt : Int))).run Try.prog W = .ok (.slice (some ⟨W.heap.size, 0, none⟩) cnt cnt) (W.alloc (.cells (madeCells (Value.int .i64 0).cells cnt) 3)) := fun W => by
    have := run_make (P := Try.prog) W 29 3 i0 _ Try.underlying29 hi hz0 .i64 .i64 (cnt : Int) (cnt : Int) (by omega) (by omega) (by rw [hz2]; omega) (by omega)
    rw [this, hz1, Int.toNat_natCast, Nat.mul_one]
  have HIT : Hid (∀ n, n < cnt → B.itm cl frm n < N ∧ frm ≤ B.itm cl frm n ∧ B.itm cl frm n < tz) := Lib.hid (fun n h => by
    have h1 := (hspec n).1 h
    have h2 := B.itm_ge hK.up frm n
    omega)
  have x2 := hX.cells.2.2.1
  have HX := Lib.hid (And.intro hX hL)
  have HK := Lib.hid hK
  have HCR := Lib.hid hcr
  have HP := Lib.hid hP
  have HSP := Lib.hid hspec
  have HEN := Lib.hid hend
  obtain ⟨sd, hsd⟩ : ∃ s, B.sid e = s := ⟨_, rfl⟩
  have hsdl : sd ≤ 17 := by rw [← hsd]; exact sid_le e
  have HSD := Lib.hid hsd
  have hpar : (e % 2 = 1 ∧ sd = 15) ∨ (e % 2 = 0 ∧ sd = 17) := by
    rw [← hsd]; unfold B.sid
    by_cases h : e % 2 = 1
    · rw [if_pos h]; omega
    · rw [if_neg h]; omega
  obtain ⟨b, hb⟩ : ∃ b, (((e : Int) % 2) == 1) = b := ⟨_, rfl⟩
  have HB : Hid ((b = true ∧ e % 2 = 1 ∧ sd = 15) ∨ (b = false ∧ e % 2 = 0 ∧ sd = 17)) := Lib.hid (by
    rw [← hb]
    rcases hpar with ⟨h1, h2⟩ | ⟨h1, h2⟩
    · left; refine ⟨?_, h1, h2⟩; simp; omega
    · right; refine ⟨?_, h1, h2⟩; simp; omega)
  clear hX hL hK hcr hP hspec hend hsd hpar hcn
  go_enter Try.func35, Try.ntmps35
  go_upto_if 27 with (go_at_call 43; (with_reducible refine RO.out.mono ?_); rintro en w1 ⟨vo, rfl, hb1, hr1⟩)
  go_cut [9] (fun s9 wx => s9 = .int .i64 (sd : Int) ∧ wx = w1)
  case first =>
    rcases HB.out with ⟨rfl, _, h2⟩ | ⟨rfl, _, h2⟩
    · subst h2
      go_wp2_with fail
      go_meet
      exact ⟨rfl, rfl⟩
    · subst h2
      go_wp2_with fail
      go_meet
      exact ⟨rfl, rfl⟩
  case rest =>
    obtain ⟨rfl, rfl⟩ := hcut
    obtain ⟨wA, hwA⟩ : ∃ x, x = wc := ⟨_, rfl⟩
    subst hwA
    have hWs := hb1.size
    have hrl := hr1.lt
    have hrd := row_rd hr1
    obtain ⟨OA, oc, rfl, hoc, hOA⟩ := ownN_form hr1
    have hxb := (Array.getElem?_eq_some_iff.1 HX.out.1.box).1
    have hgl := HX.out.2.lt
    have KF : Hid (∀ wx, Fr (fun k => k ≠ wA.heap.size) (wA.alloc (.cells (madeCells (Value.int .i64 0).cells cnt) 3)) wx → Px wx xb N gl fv cv clv ch cl ∧ Rw wx gl lv N ∧ Rd wx (.slice OA cnt oc) (itI cl frm) cnt) := Lib.hid (fun wx h => by
      have hf : Fr (fun k => k < wA.heap.size) wA wx := ((Fr.refl _ _).alloc _).trans (h.mono (fun k _ hk => by show k ≠ wA.heap.size; omega))
      have hf2 : Fr (fun k => k < W.heap.size) W wx := (Fr.of_below hb1 (fun k _ h => h)).trans (hf.mono (fun k _ hk => by omega))
      refine ⟨?_, HX.out.2.fr hf2 hgl, hrd.fr hf (fun q _ h => h)⟩
      have h0 := HX.out.1
      exact ⟨(hf2.block _ hxb hxb).trans h0.box, h0.rc.fr hf2 (fun q _ h => h), h0.rcl.fr hf2 (fun q _ h => h), h0.ne⟩)
    have HM0 := Lib.hid (make_rw wA cnt)
    have HB1 := Lib.hid hb1
    have HRL := Lib.hid hrl
    have HOA := Lib.hid hOA
    obtain ⟨MC, hMC⟩ : ∃ M, madeCells (Value.int .i64 0).cells cnt = M := ⟨_, rfl⟩
    rw [hMC] at hmk KF HM0
    clear hb1 hr1 hrl hrd hOA hMC hb
    go_upto_block 0 with fail
    go_cut [33] (fun _ wx => Fr (fun k => k ≠ wA.heap.size) (wA.alloc (.cells MC 3)) wx ∧ Rw wx wA.heap.size (fun n => (ch (B.itm cl frm n) : Int)) cnt)
    case first =>
      go_wp2
      go_loopw [33] (fun nv wx => ∃ n : Nat, nv = .int .i64 (n : Int) ∧ n ≤ cnt ∧ Fr (fun k => k ≠ wA.heap.size) (wA.alloc (.cells MC 3)) wx ∧ Rw wx wA.heap.size (fun j => if j < n then (ch (B.itm cl frm j) : Int) else 0) cnt) (fun nv _ => cnt - (RowKit.intOf nv).toNat)
      case atStart => exact ⟨0, rfl, Nat.zero_le _, Fr.refl _ _, HM0.out.congr (fun j _ => by rw [if_neg (Nat.not_lt_zero _)])⟩
      case round =>
        obtain ⟨n, rfl, hn, hF, hRw⟩ := hrel
        by_cases hlt : n < cnt
        · obtain ⟨k1, k2, k3⟩ := KF.out _ hF
          have x1 := k1.cells.2.1
          obtain ⟨og, rfl⟩ := HOA.out (by omega)
          obtain ⟨_, _, ho, _, ho2⟩ := k3
          cases ho
          obtain ⟨_, _, ho3, ho4⟩ := ho2 (by omega)
          cases ho3
          have o0 := ho4 n hlt
          rw [Nat.zero_add] at o0
          obtain ⟨CA, cc, rfl, hcc, hc1⟩ := k1.rc
          have hiN := (HIT.out n hlt).1
          obtain ⟨cg, co, rfl, hcg⟩ := hc1 (by omega)
          have c0 : wr.cell? ⟨cg, co + B.itm cl frm n, none⟩ = some (.int .i64 (ch (B.itm cl frm n) : Int)) := hcg _ hiN
          obtain ⟨i, hii⟩ : ∃ i, B.itm cl frm n = i := ⟨_, rfl⟩
          have o1 : wr.cell? ⟨og, n, none⟩ = some (.int .i64 (i : Int)) := by rw [o0]; unfold itI; rw [hii]
          rw [hii] at c0 hiN
          obtain ⟨x, hx⟩ : ∃ x, ch i = x := ⟨_, rfl⟩
          rw [hx] at c0
          have f0 := (hRw.at hlt).2
          obtain ⟨u0, g0⟩ : ∃ u, wr.cell? ⟨wA.heap.size, n, none⟩ = some u := ⟨_, (hRw.at hlt).1⟩
          have HV := Lib.hid (show (x : Int) = (ch (B.itm cl frm n) : Int) by rw [hii, hx])
          have HF := Lib.hid (And.intro hF hRw)
          clear k1 k2 o0 ho4 hc1 hcg hii hx hF hRw
          go_wp2
          go_roundw
          case rel =>
            refine ⟨n + 1, by go_num, hlt, HF.out.1.setCell _ _ (fun _ h => h rfl), (HF.out.2.set n (x : Int)).congr (fun j hj => ?_)⟩
            unfold upd
            by_cases h : j = n
            · subst h; rw [if_pos rfl, if_pos (by omega), HV.out]
            · rw [if_neg h]
              show (if j < n then (ch (B.itm cl frm j) : Int) else 0) = _
              by_cases h2 : j < n
              · rw [if_pos h2, if_pos (by omega)]
              · rw [if_neg h2, if_neg (by omega)]
          case measure => simp [RowKit.intOf]; omega
        · obtain rfl : cnt = n := by omega
          have HF := Lib.hid (And.intro hF hRw)
          clear hF hRw
          go_wp2
          go_meet
          exact ⟨HF.out.1, HF.out.2.congr (fun j hj => by rw [if_pos hj])⟩
    case rest =>
      obtain ⟨hF1, hR1⟩ := hcut
      have hgkl := hR1.lt
      have WKc := Lib.hid (fun W' (h : Rw W' wA.heap.size (fun n => (ch (B.itm cl frm n) : Int)) cnt) => weak_any wA.heap.size cnt sd (fun n => ch (B.itm cl frm n)) W' (by omega) hsdl (fun j _ => HK.out.ch _) h)
      have STc := Lib.hid (fun W' (h : Rw W' wA.heap.size (fun n => (B.wk sd cnt (fun n => ch (B.itm cl frm n)) n : Int)) cnt) => settled_any wA.heap.size cnt sd (B.wk sd cnt (fun n => ch (B.itm cl frm n))) W' (by omega) (fun j _ => wk_le sd cnt _ hsdl (fun j => HK.out.ch _) j) h)
      have HF1 := Lib.hid (And.intro hF1 hR1)
      clear hF1 hR1 HM0 hmk
      go_upto_block 2 with (first
        | (go_at_call 59; (with_reducible refine (WKc.out _ HF1.out.2).mono ?_); rintro en w2 ⟨⟨v2, rfl⟩, hf2, hr2⟩)
        | (go_at_call 60; (with_reducible refine (STc.out _ hr2).mono ?_); rintro en w3 ⟨⟨v3, rfl⟩, hf3, hr3⟩))
      obtain ⟨LV, hLV⟩ : ∃ L : Nat → Nat, (fun n => B.lvl e (B.res sd cnt (fun n => ch (B.itm cl frm n)) n)) = L := ⟨_, rfl⟩
      have HLV := Lib.hid hLV
      have hF3 := (HF1.out.1.trans hf2).trans hf3
      obtain ⟨q1, q2, q3⟩ := KF.out _ hF3
      have hobl : ∀ q, (Value.slice OA cnt oc).ownBlock = some q → q ≠ gl := fun q hq => by have := (HRL.out q hq).1; omega
      have KG : Hid (∀ wx, Fr (fun k => k ≠ gl) w3 wx → Px wx xb N gl fv cv clv ch cl ∧ Rd wx (.slice OA cnt oc) (itI cl frm) cnt ∧ Rw wx wA.heap.size (fun n => (B.res sd cnt (fun n => ch (B.itm cl frm n)) n : Int)) cnt) := Lib.hid (fun wx h => ⟨q1.fr h, q3.fr h (fun q e _ => hobl q e), hr3.fr h (by show wA.heap.size ≠ gl; omega)⟩)
      have H3 := Lib.hid (And.intro hF3 q2)
      clear hLV hF3 q1 q2 q3 hobl hf2 hf3 hr2 hr3 KF WKc STc
      go_cut [57] (fun _ wx => Fr (fun k => k ≠ gl) w3 wx ∧ Rw wx gl (lv1 cl frm LV lv cnt) N)
      case first =>
        go_wp2
        go_loopw [57] (fun nv wx => ∃ n : Nat, nv = .int .i64 (n : Int) ∧ n ≤ cnt ∧ Fr (fun k => k ≠ gl) w3 wx ∧ Rw wx gl (lv1 cl frm LV lv n) N) (fun nv _ => cnt - (RowKit.intOf nv).toNat)
        case atStart => exact ⟨0, rfl, Nat.zero_le _, Fr.refl _ _, H3.out.2.congr (fun j _ => by unfold lv1; rw [if_neg (fun h => absurd h.2.1 (Nat.not_lt_zero _))])⟩
        case round =>
          obtain ⟨n, rfl, hn, hF, hRw⟩ := hrel
          by_cases hlt : n < cnt
          · obtain ⟨k1, k2, k3⟩ := KG.out _ hF
            have x3 := k1.cells.2.2.2
            obtain ⟨og, rfl⟩ := HOA.out (by omega)
            obtain ⟨_, _, ho, _, ho2⟩ := k2
            cases ho
            obtain ⟨_, _, ho3, ho4⟩ := ho2 (by omega)
            cases ho3
            have o0 := ho4 n hlt
            rw [Nat.zero_add] at o0
            have hiN := (HIT.out n hlt).1
            obtain ⟨i, hii⟩ : ∃ i, B.itm cl frm n = i := ⟨_, rfl⟩
            have o1 : wr.cell? ⟨og, n, none⟩ = some (.int .i64 (i : Int)) := by rw [o0]; unfold itI; rw [hii]
            rw [hii] at hiN
            have r0 := (k3.at hlt).1
            have hLn : LV n = B.lvl e (B.res sd cnt (fun n => ch (B.itm cl frm n)) n) := by rw [← HLV.out]
            obtain ⟨x, hx⟩ : ∃ x, B.res sd cnt (fun n => ch (B.itm cl frm n)) n = x := ⟨_, rfl⟩
            rw [hx] at r0 hLn
            have f0 := (hRw.at hiN).2
            obtain ⟨u0, g0⟩ : ∃ u, wr.cell? ⟨gl, i, none⟩ = some u := ⟨_, (hRw.at hiN).1⟩
            have HF := Lib.hid (And.intro hF hRw)
            have HII := Lib.hid hii
            have HLn := Lib.hid hLn
            clear k1 k3 o0 ho4 hF hRw hii hx hLn
            have NEXT : Hid (∀ y : Int, y = (LV n : Int) → Rw (wr.setCell ⟨gl, i, none⟩ (.int .i64 y)) gl (lv1 cl frm LV lv (n + 1)) N) := Lib.hid (fun y hy => by
              subst hy
              refine (HF.out.2.set i _).congr (fun j _ => ?_)
              rw [← HII.out]
              exact lv1_step cl HK.out.up frm LV lv n j)
            rcases HB.out with ⟨_, h1, h2⟩ | ⟨_, h1, h2⟩
            · have p1 : ((e : Int) % 2 == 1) = true := by simp; omega
              have p0 : ((e : Int) % 2 == 0) = false := by simp; omega
              by_cases hx15 : x = 15
              · subst hx15
                have HV := Lib.hid (show LV n = e by rw [HLn.out]; unfold B.lvl; rw [if_pos h1, if_pos rfl])
                clear h1 h2
                go_wp2
                go_roundw
                case rel => exact ⟨n + 1, by go_num, hlt, HF.out.1.setCell _ _ (fun _ h => h rfl), NEXT.out _ (by rw [HV.out])⟩
                case measure => simp [RowKit.intOf]; omega
              · have HV := Lib.hid (show LV n = e + 1 by rw [HLn.out]; unfold B.lvl; rw [if_pos h1, if_neg hx15])
                have b15 : ((x : Int) != 15) = true := by simp; omega
                clear h1 h2
                go_wp2
                go_roundw
                case rel => exact ⟨n + 1, by go_num, hlt, HF.out.1.setCell _ _ (fun _ h => h rfl), NEXT.out _ (by rw [HV.out]; go_num)⟩
                case measure => simp [RowKit.intOf]; omega
            · have p1 : ((e : Int) % 2 == 1) = false := by simp; omega
              have p0 : ((e : Int) % 2 == 0) = true := by simp; omega
              have h1' : ¬ e % 2 = 1 := by omega
              by_cases hx15 : x = 15
              · subst hx15
                have HV := Lib.hid (show LV n = e + 1 by rw [HLn.out]; unfold B.lvl; rw [if_neg h1', if_pos rfl])
                clear h1 h2 h1'
                go_wp2
                go_roundw
                case rel => exact ⟨n + 1, by go_num, hlt, HF.out.1.setCell _ _ (fun _ h => h rfl), NEXT.out _ (by rw [HV.out]; go_num)⟩
                case measure => simp [RowKit.intOf]; omega
              · have b15 : ((x : Int) == 15) = false := by simp; omega
                by_cases hx17 : x = 17
                · subst hx17
                  have HV := Lib.hid (show LV n = e by rw [HLn.out]; unfold B.lvl; rw [if_neg h1', if_neg hx15, if_pos rfl])
                  clear h1 h2 h1'
                  go_wp2
                  go_roundw
                  case rel => exact ⟨n + 1, by go_num, hlt, HF.out.1.setCell _ _ (fun _ h => h rfl), NEXT.out _ (by rw [HV.out])⟩
                  case measure => simp [RowKit.intOf]; omega
                · have b17 : ((x : Int) != 17) = true := by simp; omega
                  have HV := Lib.hid (show LV n = e + 2 by rw [HLn.out]; unfold B.lvl; rw [if_neg h1', if_neg hx15, if_neg hx17])
                  clear h1 h2 h1'
                  go_wp2
                  go_roundw
                  case rel => exact ⟨n + 1, by go_num, hlt, HF.out.1.setCell _ _ (fun _ h => h rfl), NEXT.out _ (by rw [HV.out]; go_num)⟩
                  case measure => simp [RowKit.intOf]; omega
          · obtain rfl : cnt = n := by omega
            have HF := Lib.hid (And.intro hF hRw)
            clear hF hRw
            go_wp2
            go_meet
            exact HF.out
      case rest =>
        obtain ⟨hF4, hR4⟩ := hcut
        have H4 := Lib.hid (And.intro hF4 hR4)
        clear hF4 hR4
        have HLI : Hid (∀ n, n < cnt → B.lev ch cl (f + 1) frm tz e (B.itm cl frm n) = LV n) := Lib.hid (fun n _ => by rw [HLEV.out.1 n, ← HLV.out, HSD.out])
        have HLN := Lib.hid HLEV.out.2
        obtain ⟨LEV, hLEV⟩ : ∃ L : Nat → Nat, B.lev ch cl (f + 1) frm tz e = L := ⟨_, rfl⟩
        rw [hLEV] at HLI HLN
        have HLEV2 := Lib.hid hLEV
        clear hLEV HLEV
        go_wp2
        go_loopw [106] (fun nv wx => ∃ n : Nat, nv = .int .i64 (n : Int) ∧ n ≤ cnt ∧ Fr (fun k => k ≠ gl) w3 wx ∧ Rw wx gl (lv2 LEV frm (B.itm cl frm n) (lv1 cl frm LV lv cnt)) N) (fun nv _ => cnt - (RowKit.intOf nv).toNat)
        case atStart => exact ⟨0, rfl, Nat.zero_le _, H4.out.1, H4.out.2.congr (fun j _ => by unfold lv2; rw [if_neg (fun h => by have h0 : B.itm cl frm 0 = frm := rfl; omega)])⟩
        case round =>
          obtain ⟨n, rfl, hn, hF, hRw⟩ := hrel
          by_cases hlt : n < cnt
          · obtain ⟨k1, k2, k3⟩ := KG.out _ hF
            have x2' := k1.cells.2.2.1
            obtain ⟨og, rfl⟩ := HOA.out (by omega)
            obtain ⟨_, _, ho, _, ho2⟩ := k2
            cases ho
            obtain ⟨_, _, ho3, ho4⟩ := ho2 (by omega)
            cases ho3
            have o0 := ho4 n hlt
            rw [Nat.zero_add] at o0
            obtain ⟨hiN, hif, hit⟩ := HIT.out n hlt
            obtain ⟨i, hii⟩ : ∃ i, B.itm cl frm n = i := ⟨_, rfl⟩
            have o1 : wr.cell? ⟨og, n, none⟩ = some (.int .i64 (i : Int)) := by rw [o0]; unfold itI; rw [hii]
            have hLi := HLI.out n hlt
            have hl1 := lv1_item cl HK.out.up frm LV lv cnt n hlt
            have hnx : B.itm cl frm (n + 1) = B.nx cl i := by rw [← hii]; rfl
            have hin : ∀ k, i < k → k < B.nx cl i → LEV k = B.lev ch cl f (i + 1) (cl i) (B.inn ch cl e i) k := fun k h1 h2 => by
              have := HLN.out n k (by rw [hii]; exact h1) (by rw [hnx]; exact h2)
              rw [hii] at this
              exact this
            have hci := HCR.out i (by omega) (by omega)
            rw [hii] at hiN hif hit hLi hl1 hRw
            have hcli := HK.out.up i
            have ISO := Lib.hid (fun (h : cl i ≠ 0) => iso_of_row N ch cl hN HK.out f (HP.out (by omega)) xb gl fv cv clv i e wr _ hiN h (by omega) (by omega) k1 hRw)
            obtain ⟨LA, lc, rfl, hlc, hl⟩ := k1.rcl
            obtain ⟨lg, lo, rfl, hlg⟩ := hl (by omega)
            have l0 := hlg i hiN
            have HF := Lib.hid (And.intro hF hRw)
            have HNX := Lib.hid hnx
            have HLL := Lib.hid (And.intro hLi (And.intro hl1 hin))
            clear k1 k3 o0 ho4 hF hRw hii hLi hl1 hnx hin hl hlg hci hcli
            by_cases hc0 : cl i = 0
            · rw [show clI cl i = -1 from if_pos hc0] at l0
              have hx : B.nx cl i = i + 1 := if_pos hc0
              have HXN := Lib.hid hx
              clear ISO hc0 hx
              go_wp2
              go_roundw
              case rel =>
                refine ⟨n + 1, by go_num, hlt, HF.out.1, HF.out.2.congr (fun k _ => ?_)⟩
                rw [HNX.out, HXN.out]
                unfold lv2
                by_cases h1 : frm ≤ k ∧ k < i
                · rw [if_pos h1, if_pos ⟨h1.1, by omega⟩]
                · rw [if_neg h1]
                  by_cases h2 : k = i
                  · subst h2; rw [if_pos ⟨hif, by omega⟩, HLL.out.2.1, HLL.out.1]
                  · rw [if_neg (by omega)]
              case measure => simp [RowKit.intOf]; omega
            · have IS := Lib.hid (ISO.out hc0)
              obtain ⟨q, hq⟩ : ∃ q, cl i = q := ⟨_, rfl⟩
              have hup := HK.out.up i hc0
              rw [show clI cl i = (cl i : Int) from if_neg hc0, hq] at l0
              have hx : B.nx cl i = cl i := if_neg hc0
              have HXN := Lib.hid hx
              have HQ := Lib.hid hq
              rw [hq] at hup
              clear ISO hc0 hx hq
              go_wp2_with (go_at_call 61; (with_reducible refine IS.out.mono ?_); rintro en w5 ⟨⟨v5, rfl⟩, hf5, hr5⟩; have HR5 := Lib.hid (And.intro hf5 hr5); clear hf5 hr5)
              go_roundw
              case rel =>
                refine ⟨n + 1, by go_num, hlt, HF.out.1.trans HR5.out.1, HR5.out.2.congr (fun k _ => ?_)⟩
                rw [HNX.out, HXN.out]
                have hL := HLL.out.2.2 k
                rw [HXN.out] at hL
                rw [HQ.out] at hL ⊢
                unfold lv2
                by_cases h1 : i + 1 ≤ k ∧ k < q
                · rw [if_pos h1, if_pos ⟨by omega, by omega⟩, hL (by omega) h1.2]
                · rw [if_neg h1]
                  by_cases h2 : frm ≤ k ∧ k < i
                  · rw [if_pos h2, if_pos ⟨h2.1, by omega⟩]
                  · rw [if_neg h2]
                    by_cases h3 : k = i
                    · subst h3; rw [if_pos ⟨hif, by omega⟩, HLL.out.2.1, HLL.out.1]
                    · rw [if_neg (by omega)]
              case measure => simp [RowKit.intOf]; omega
          · obtain rfl : cnt = n := by omega
            have HF := Lib.hid (And.intro hF hRw)
            clear hF hRw
            go_wp2
            go_end0
            refine ⟨⟨_, rfl⟩, ?_, HF.out.2.congr (fun k _ => ?_)⟩
            · have h2 : Fr (fun k => k < W.heap.size) W w3 := (Fr.of_below HB1.out (fun k _ h => h)).trans (((Fr.refl (fun k => k < W.heap.size) wA).alloc (.cells MC 3)).trans (H3.out.1.mono (fun k _ hk => by show k ≠ wA.heap.size; omega)))
              exact (h2.mono (fun k hk _ => hk)).trans HF.out.1
            · rw [HEN.out, ← HLEV2.out]
              unfold lv2
              by_cases h1 : frm ≤ k ∧ k < tz
              · rw [if_pos h1]
                show _ = if frm ≤ k ∧ k < tz then _ else _
                rw [if_pos h1]
              · rw [if_neg h1, lv1_out cl HK.out.up frm LV lv cnt k (by rw [HEN.out]; omega)]
                show _ = if frm ≤ k ∧ k < tz then _ else _
                rw [if_neg h1]
theorem rowP_all (N : Nat) (ch cl : Nat → Nat) (hN : N ≤ 4194304) (hK : ClOk N ch cl) : ∀ f, RowP N ch cl f := by
  intro f
  induction f with
  | zero =>
    intro xb gl fv cv clv frm tz e W lv hf hft htN hcr he hX hL
    refine (row_core N ch cl hN hK 0 xb gl fv cv clv frm tz e W lv (fun h => absurd h (by omega)) (by omega) hft htN hcr he hX hL).mono ?_
    rintro en w' ⟨h1, h2, h3⟩
    exact ⟨h1, h2, h3.congr (fun k _ => by rw [if_neg (by omega), if_neg (by omega)])⟩
  | succ f ih =>
    intro xb gl fv cv clv frm tz e W lv hf hft htN hcr he hX hL
    exact row_core N ch cl hN hK f xb gl fv cv clv frm tz e W lv (fun _ => ih) hf hft htN hcr he hX hL
end Go.Proofs.Ytclblidfamabdaa

/- The last rule: the base's level for what stands at the rim. -/
set_option linter.unusedVariables false
set_option linter.unusedSimpArgs false
namespace Go.Proofs.Ytclblidfamabdaa
open Go.RowKit Go.Shelf Go.Lib Go.BigFrame
attribute [local go_sem] Oper.semAt_some

def lstI (base : Nat) (c : Nat → Nat) (N : Nat) (lv : Nat → Int) (k : Nat) : Int := if c k = 1 ∨ c k = 2 then (base : Int) else if (c k = 3 ∨ B.isIso (c k) = true) ∧ B.rimF c N (N - 1 - k) = true then (base : Int) else lv k
def lstP (base : Nat) (c : Nat → Nat) (N : Nat) (lv : Nat → Int) (k j : Nat) : Int := if k ≤ j then lstI base c N lv j else lv j
theorem lstP_step (base : Nat) (c : Nat → Nat) (N : Nat) (lv : Nat → Int) (m : Nat) : ∀ j, upd (lstP base c N lv (m + 1)) m (lstI base c N lv m) j = lstP base c N lv m j := by
  intro j
  by_cases h : j = m
  · subst h; rw [upd_at]; unfold lstP; rw [if_pos (Nat.le_refl _)]
  · rw [upd_ne _ _ h]; unfold lstP
    by_cases h1 : m + 1 ≤ j
    · rw [if_pos h1, if_pos (by omega)]
    · rw [if_neg h1, if_neg (by omega)]
theorem lstP_keep (base : Nat) (c : Nat → Nat) (N : Nat) (lv : Nat → Int) (m : Nat) (h : lstI base c N lv m = lv m) : ∀ j, lstP base c N lv (m + 1) j = lstP base c N lv m j := by
  intro j
  unfold lstP
  by_cases h1 : m + 1 ≤ j
  · rw [if_pos h1, if_pos (by omega)]
  · rw [if_neg h1]
    by_cases h2 : m = j
    · subst h2; rw [if_pos (Nat.le_refl _), h]
    · rw [if_neg (by omega)]

theorem Rd.fr0 {S : Nat → Prop} {w w' : World} {v : Value} {c : Nat → Int} {n : Nat} (h : Rd w v c n) (hf : Fr S w w') (hS : 0 < n → ∀ q, v.ownBlock = some q → q < w.heap.size → S q) : Rd w' v c n := by
  rcases Nat.eq_zero_or_pos n with h0 | h0
  · obtain ⟨A, cap, rfl, hle, _⟩ := h
    exact ⟨A, cap, rfl, hle, fun hn => absurd hn (by omega)⟩
  · exact h.fr hf (hS h0)
set_option maxRecDepth 1000000 in
set_option maxHeartbeats 4000000 in
theorem last_any (N : Nat) (c ch cl : Nat → Nat) (hN : N ≤ 4194304) (xb gl : Nat) (fv cv clv : Value) (base : Nat) (W : World) (lv : Nat → Int) (hX : Px W xb N gl fv cv clv ch cl) (hR : Rd W fv (fun j => (c j : Int)) N) (hne : 0 < N → fv.ownBlock ≠ some gl) (hc : ∀ j, 1 ≤ c j ∧ c j ≤ 17) (hL : Rw W gl lv N) :
    Calls Try.prog 36 #[.pointer (some ⟨xb, 0, none⟩), .int .i64 (base : Int)] W fun en w' => (∃ v, en = .returned v) ∧ Fr (fun k => k ≠ gl) W w' ∧ Rw w' gl (lstI base c N lv) N := by
  have HC := Lib.hid hc
  have KG : Hid (∀ wx, Fr (fun k => k ≠ gl) W wx → Px wx xb N gl fv cv clv ch cl ∧ Rd wx fv (fun j => (c j : Int)) N) := Lib.hid (fun wx h => ⟨hX.fr h, hR.fr0 h (fun h0 q e _ e2 => hne h0 (by rw [e, e2]))⟩)
  obtain ⟨x0, x1, x2, x3⟩ := hX.cells
  have hR' := hR
  obtain ⟨FA, fc, rfl, hfc, hfl⟩ := hR'
  have HFA : Hid (0 < N → ∃ fg fo, FA = some ⟨fg, fo, none⟩) := Lib.hid (fun h => by obtain ⟨g, o, h, _⟩ := hfl h; exact ⟨g, o, h⟩)
  have HL := Lib.hid hL
  clear hc hX hR hL hfl x1 x2 hne
  go_enter Try.func36, Try.ntmps36
  go_wp2
  go_loopw [4, 5] (fun bv iv wx => ∃ (k : Nat) (b : Bool), bv = .bool b ∧ iv = .int .i64 ((k : Int) - 1) ∧ k ≤ N ∧ b = B.rimF c N (N - k) ∧ Fr (fun k => k ≠ gl) W wx ∧ Rw wx gl (lstP base c N lv k) N) (fun _ iv _ => (RowKit.intOf iv + 1).toNat)
  case atStart => exact ⟨N, true, rfl, by go_num, Nat.le_refl _, by rw [Nat.sub_self]; rfl, Fr.refl _ _, HL.out.congr (fun j hj => by unfold lstP; rw [if_neg (by omega)])⟩
  case round =>
    obtain ⟨k, b, rfl, rfl, hk, hb, hF, hRw⟩ := hrel
    obtain ⟨k1, k2⟩ := KG.out _ hF
    by_cases h0 : k = 0
    · have HX := Lib.hid (And.intro hF hRw)
      subst h0
      clear hF hRw hb k1 k2
      go_wp2
      go_end0
      exact ⟨⟨_, rfl⟩, HX.out.1, HX.out.2.congr (fun j _ => by unfold lstP; rw [if_pos (Nat.zero_le _)])⟩
    · obtain ⟨m, hm⟩ : ∃ m, k = m + 1 := ⟨k - 1, by omega⟩
      have hkm : ((k : Int) - 1) = (m : Int) := by omega
      rw [hkm]
      obtain ⟨fg, fo, rfl⟩ := HFA.out (by omega)
      have f0 := k1.cells.1
      have f3 := k1.cells.2.2.2
      obtain ⟨_, _, e1, _, k3⟩ := k2
      cases e1
      obtain ⟨_, _, e2, k4⟩ := k3 (by omega)
      cases e2
      have c0 : wr.cell? ⟨fg, fo + m, none⟩ = some (.int .i64 (c m : Int)) := k4 m (by omega)
      obtain ⟨l0, l1⟩ := hRw.at (show m < N by omega)
      have hcm := HC.out m
      have hd : N - m = (N - k) + 1 := by omega
      have hd2 : N - 1 - m = N - k := by omega
      have hd3 : N - 1 - (N - k) = m := by omega
      have hri : B.rimF c N (N - m) = if c m = 1 ∨ c m = 2 then true else if c m = 3 ∨ B.isIso (c m) = true then b else false := by
        rw [hd, hb]
        show (if c (N - 1 - (N - k)) = 1 ∨ c (N - 1 - (N - k)) = 2 then true else if c (N - 1 - (N - k)) = 3 ∨ B.isIso (c (N - 1 - (N - k))) = true then B.rimF c N (N - k) else false) = _
        rw [hd3]
      have hst : lstI base c N lv m = if c m = 1 ∨ c m = 2 then (base : Int) else if (c m = 3 ∨ B.isIso (c m) = true) ∧ b = true then (base : Int) else lv m := by
        unfold lstI; rw [hd2, hb]
      subst hm
      have HS : Hid (∀ W', Rw W' gl (upd (lstP base c N lv (m + 1)) m (lstI base c N lv m)) N → Rw W' gl (lstP base c N lv m) N) := Lib.hid (fun W' h => h.congr (fun j _ => lstP_step base c N lv m j))
      have HK : Hid (lstI base c N lv m = lv m → Rw wr gl (lstP base c N lv m) N) := Lib.hid (fun h => hRw.congr (fun j _ => lstP_keep base c N lv m h j))
      have HF := Lib.hid (And.intro hF hRw)
      clear hF hRw k1 k3 k4 hb hd hd2 hd3 hkm h0
      obtain ⟨x, hx⟩ : ∃ x, c m = x := ⟨_, rfl⟩
      rw [hx] at c0 hcm hri hst
      clear hx
      by_cases h12 : x = 1 ∨ x = 2
      · rw [if_pos h12] at hri hst
        rw [hst] at HS
        have HR := Lib.hid hri
        clear hri hst HK
        rcases h12 with rfl | rfl
        all_goals
          go_wp2
          go_roundw
          case rel => exact ⟨m, true, rfl, by go_num, by omega, HR.out.symm, HF.out.1.setCell _ _ (fun _ h => h rfl), HS.out _ (HF.out.2.set _ _)⟩
          case measure => simp [RowKit.intOf]
      · rw [if_neg h12] at hri hst
        by_cases h3 : x = 3 ∨ B.isIso x = true
        · rw [if_pos h3] at hri
          have h3' : x = 3 ∨ x = 9 ∨ x = 10 ∨ x = 11 ∨ x = 12 := by
            rcases h3 with h | h
            · exact .inl h
            · simp [B.isIso] at h; omega
          cases b
          · rw [if_neg (by simp)] at hst
            have HR := Lib.hid hri
            have HK2 := Lib.hid (HK.out hst)
            clear hri hst HK HS h3 h12
            rcases h3' with rfl | rfl | rfl | rfl | rfl
            all_goals
              go_wp2
              go_roundw
              case rel => exact ⟨m, false, rfl, by go_num, by omega, HR.out.symm, HF.out.1, HK2.out⟩
              case measure => simp [RowKit.intOf]
          · rw [if_pos ⟨h3, rfl⟩] at hst
            rw [hst] at HS
            have HR := Lib.hid hri
            clear hri hst HK h3 h12
            rcases h3' with rfl | rfl | rfl | rfl | rfl
            all_goals
              go_wp2
              go_roundw
              case rel => exact ⟨m, true, rfl, by go_num, by omega, HR.out.symm, HF.out.1.setCell _ _ (fun _ h => h rfl), HS.out _ (HF.out.2.set _ _)⟩
              case measure => simp [RowKit.intOf]
        · rw [if_neg h3] at hri
          rw [if_neg (fun h => h3 h.1)] at hst
          have h3' : x ≠ 3 ∧ ¬ (9 ≤ x ∧ x ≤ 12) := ⟨fun h => h3 (.inl h), fun h => h3 (.inr (by simp [B.isIso]; omega))⟩
          have b1 : ((x : Int) == 1) = false := by simp; omega
          have b2 : ((x : Int) == 2) = false := by simp; omega
          have b3 : ((x : Int) == 3) = false := by simp; omega
          have HR := Lib.hid hri
          have HK2 := Lib.hid (HK.out hst)
          have h4 : x < 9 ∨ 12 < x := by omega
          clear hri hst HK HS h3 h12 h3' l0 l1
          rcases h4 with h4 | h4
          all_goals
            go_wp2
            go_roundw
            case rel => exact ⟨m, false, rfl, by go_num, by omega, HR.out.symm, HF.out.1, HK2.out⟩
            case measure => simp [RowKit.intOf]
end Go.Proofs.Ytclblidfamabdaa

/- bidi.paragraphs: classes in parts. -/
set_option linter.unusedVariables false
set_option linter.unusedSimpArgs false
namespace Go.Proofs.Ytclblidfamabdaa
open Go.RowKit Go.Shelf Go.Lib Go.BigFrame
attribute [local go_sem] Oper.semAt_some

theorem Try.infoSI : (Try.prog.info? 29).map (fun i => (i.zero, i.size, i.bytes)) = some (some (.slice none 0 0), 1, 24) := by kernel_rfl
/-- Where the paragraphs of the first i classes begin, and what slices hold them. -/
structure Prs (W : World) (c : Nat → Nat) (i m : Nat) (bg : Nat → Nat) (L : List Value) : Prop where
  len : L.length = m
  zero : bg 0 = 0
  mono : ∀ k, k < m → bg k < bg (k + 1)
  le : bg m ≤ i
  beg : ∀ k j, k < m → bg k ≤ j → j < bg (k + 1) → B.pbeg c j = bg k
  now : ∀ j, bg m ≤ j → j ≤ i → B.pbeg c j = bg m
  fin : ∀ k, k < m → c (bg (k + 1) - 1) = 1 ∧ ∀ j, bg k ≤ j → j + 1 < bg (k + 1) → c j ≠ 1
  cur : ∀ j, bg m ≤ j → j < i → c j ≠ 1
  items : ∀ k, k < m → ∃ u, L[k]? = some u ∧ Rd W u (fun j => (c (bg k + j) : Int)) (bg (k + 1) - bg k)
theorem Prs.start (W : World) (c : Nat → Nat) : Prs W c 0 0 (fun _ => 0) [] :=
  ⟨rfl, rfl, fun k h => absurd h (Nat.not_lt_zero _), Nat.le_refl _, fun k j h => absurd h (Nat.not_lt_zero _), fun j _ h => by obtain rfl : j = 0 := Nat.le_zero.1 h; rfl, fun k h => absurd h (Nat.not_lt_zero _), fun j _ h => absurd h (Nat.not_lt_zero _), fun k h => absurd h (Nat.not_lt_zero _)⟩
theorem Prs.skip {W : World} {c : Nat → Nat} {i m : Nat} {bg : Nat → Nat} {L : List Value} (h : Prs W c i m bg L) (hc : c i ≠ 1) : Prs W c (i + 1) m bg L :=
  ⟨h.len, h.zero, h.mono, Nat.le_succ_of_le h.le, h.beg, fun j h1 h2 => by
    rcases Nat.lt_or_ge j (i + 1) with h3 | h3
    · exact h.now j h1 (by omega)
    · obtain rfl : j = i + 1 := by omega
      show (if c i = 1 then i + 1 else B.pbeg c i) = _
      rw [if_neg hc]; exact h.now i h.le (Nat.le_refl _), h.fin, fun j h1 h2 => by
    rcases Nat.lt_or_ge j i with h3 | h3
    · exact h.cur j h1 h3
    · obtain rfl : j = i := by omega
      exact hc, h.items⟩
theorem Prs.part {W : World} {c : Nat → Nat} {i m : Nat} {bg : Nat → Nat} {L : List Value} (h : Prs W c i m bg L) (hc : c i = 1) (u : Value) (hu : Rd W u (fun j => (c (bg m + j) : Int)) (i + 1 - bg m)) : ∃ bg', bg' (m + 1) = i + 1 ∧ Prs W c (i + 1) (m + 1) bg' (L ++ [u]) := by
  have hb : ∀ k, k ≤ m → (if k = m + 1 then i + 1 else bg k) = bg k := fun k hk => if_neg (by omega)
  have hl := h.le
  refine ⟨fun k => if k = m + 1 then i + 1 else bg k, if_pos rfl, ⟨by simp [h.len], (hb 0 (Nat.zero_le _)).trans h.zero, fun k hk => ?_, by rw [if_pos rfl]; exact Nat.le_refl _, fun k j hk h1 h2 => ?_, fun j h1 h2 => ?_, fun k hk => ?_, fun j h1 h2 => ?_, fun k hk => ?_⟩⟩
  · show (if k = m + 1 then i + 1 else bg k) < if k + 1 = m + 1 then i + 1 else bg (k + 1)
    rw [hb k (by omega)]
    by_cases e : k = m
    · subst e; rw [if_pos rfl]; omega
    · rw [if_neg (by omega)]; exact h.mono k (by omega)
  · change (if k = m + 1 then i + 1 else bg k) ≤ j at h1
    change j < (if k + 1 = m + 1 then i + 1 else bg (k + 1)) at h2
    show _ = if k = m + 1 then i + 1 else bg k
    rw [hb k (by omega)] at h1 ⊢
    by_cases e : k = m
    · subst e; rw [if_pos rfl] at h2; exact h.now j h1 (by omega)
    · rw [if_neg (by omega)] at h2; exact h.beg k j (by omega) h1 h2
  · change (if m + 1 = m + 1 then i + 1 else bg (m + 1)) ≤ j at h1
    show _ = if m + 1 = m + 1 then i + 1 else bg (m + 1)
    rw [if_pos rfl] at h1 ⊢
    obtain rfl : j = i + 1 := by omega
    show (if c i = 1 then i + 1 else B.pbeg c i) = _
    rw [if_pos hc]
  · show c ((if k + 1 = m + 1 then i + 1 else bg (k + 1)) - 1) = 1 ∧ ∀ j, (if k = m + 1 then i + 1 else bg k) ≤ j → j + 1 < (if k + 1 = m + 1 then i + 1 else bg (k + 1)) → c j ≠ 1
    rw [hb k (by omega)]
    by_cases e : k = m
    · subst e; rw [if_pos rfl]; exact ⟨hc, fun j h1 h2 => h.cur j h1 (by omega)⟩
    · rw [if_neg (by omega)]; exact h.fin k (by omega)
  · change (if m + 1 = m + 1 then i + 1 else bg (m + 1)) ≤ j at h1
    rw [if_pos rfl] at h1; omega
  · show ∃ u', (L ++ [u])[k]? = some u' ∧ Rd W u' (fun j => (c ((if k = m + 1 then i + 1 else bg k) + j) : Int)) ((if k + 1 = m + 1 then i + 1 else bg (k + 1)) - if k = m + 1 then i + 1 else bg k)
    rw [hb k (by omega)]
    by_cases e : k = m
    · subst e; rw [if_pos rfl]; exact ⟨u, by rw [← h.len]; simp, hu⟩
    · rw [if_neg (by omega)]
      obtain ⟨u', h1, h2⟩ := h.items k (by omega)
      have := h.len
      exact ⟨u', by rw [List.getElem?_append_left (by omega)]; exact h1, h2⟩
/-- All paragraphs. -/
structure Pars (W : World) (c : Nat → Nat) (n P : Nat) (bg : Nat → Nat) (L : List Value) : Prop where
  len : L.length = P
  pos : 0 < P
  le_n : P ≤ n + 1
  zero : bg 0 = 0
  all : bg P = n
  mono : ∀ k, k < P → bg k ≤ bg (k + 1)
  beg : ∀ k j, k < P → bg k ≤ j → j < bg (k + 1) → B.pbeg c j = bg k
  fin : ∀ k, k < P → B.pfin c n (bg k) = bg (k + 1)
  items : ∀ k, k < P → ∃ u, L[k]? = some u ∧ Rd W u (fun j => (c (bg k + j) : Int)) (bg (k + 1) - bg k)
theorem pendF_at (c : Nat → Nat) (n q : Nat) (hq : q < n) (hc : c q = 1) : ∀ f i, i ≤ q → q - i < f → (∀ j, i ≤ j → j < q → c j ≠ 1) → B.pendF c n f i = q + 1 := by
  intro f
  induction f with
  | zero => intro i _ h; omega
  | succ f ih =>
    intro i hi hf h
    unfold B.pendF
    rw [if_pos (by omega)]
    by_cases e : i = q
    · subst e; rw [if_pos hc]
    · rw [if_neg (h i (Nat.le_refl _) (by omega))]
      exact ih (i + 1) (by omega) (by omega) (fun j h1 h2 => h j (by omega) h2)
theorem pendF_none (c : Nat → Nat) (n : Nat) : ∀ f i, i ≤ n → n - i ≤ f → (∀ j, i ≤ j → j < n → c j ≠ 1) → B.pendF c n f i = n := by
  intro f
  induction f with
  | zero => intro i h1 h2 _; show i = n; omega
  | succ f ih =>
    intro i hi hf h
    unfold B.pendF
    by_cases e : i < n
    · rw [if_pos e, if_neg (h i (Nat.le_refl _) e)]
      exact ih (i + 1) (by omega) (by omega) (fun j h1 h2 => h j (by omega) h2)
    · rw [if_neg e]; omega
theorem Prs.m_le {W : World} {c : Nat → Nat} {i m : Nat} {bg : Nat → Nat} {L : List Value} (h : Prs W c i m bg L) : ∀ k, k ≤ m → k ≤ bg k := by
  intro k
  induction k with
  | zero => intro _; exact Nat.zero_le _
  | succ k ih => intro hk; have := ih (by omega); have := h.mono k (by omega); omega
theorem Prs.bg_le {W : World} {c : Nat → Nat} {i m : Nat} {bg : Nat → Nat} {L : List Value} (h : Prs W c i m bg L) : ∀ d k, k + d = m → bg k ≤ bg m := by
  intro d
  induction d with
  | zero => intro k hk; rw [show k = m by omega]; exact Nat.le_refl _
  | succ d ih => intro k hk; have := ih (k + 1) (by omega); have := h.mono k (by omega); omega
theorem Prs.end {W : World} {c : Nat → Nat} {n m : Nat} {bg : Nat → Nat} {L : List Value} (h : Prs W c n m bg L) (u : Value) (hu : Rd W u (fun j => (c (bg m + j) : Int)) (n - bg m)) : ∃ bg', Pars W c n (m + 1) bg' (L ++ [u]) := by
  have hb : ∀ k, k ≤ m → (if k = m + 1 then n else bg k) = bg k := fun k hk => if_neg (by omega)
  have hl := h.le
  have hml := h.m_le m (Nat.le_refl _)
  refine ⟨fun k => if k = m + 1 then n else bg k, ⟨by simp [h.len], Nat.succ_pos _, by omega, (hb 0 (Nat.zero_le _)).trans h.zero, if_pos rfl, fun k hk => ?_, fun k j hk h1 h2 => ?_, fun k hk => ?_, fun k hk => ?_⟩⟩
  · show (if k = m + 1 then n else bg k) ≤ if k + 1 = m + 1 then n else bg (k + 1)
    rw [hb k (by omega)]
    by_cases e : k = m
    · subst e; rw [if_pos rfl]; exact hl
    · rw [if_neg (by omega)]; exact Nat.le_of_lt (h.mono k (by omega))
  · change (if k = m + 1 then n else bg k) ≤ j at h1
    change j < (if k + 1 = m + 1 then n else bg (k + 1)) at h2
    show _ = if k = m + 1 then n else bg k
    rw [hb k (by omega)] at h1 ⊢
    by_cases e : k = m
    · subst e; rw [if_pos rfl] at h2; exact h.now j h1 (by omega)
    · rw [if_neg (by omega)] at h2; exact h.beg k j (by omega) h1 h2
  · show B.pfin c n (if k = m + 1 then n else bg k) = if k + 1 = m + 1 then n else bg (k + 1)
    rw [hb k (by omega)]
    by_cases e : k = m
    · subst e; rw [if_pos rfl]; exact pendF_none c n _ _ hl (Nat.le_refl _) (fun j h1 h2 => h.cur j h1 h2)
    · rw [if_neg (by omega)]
      obtain ⟨h1, h2⟩ := h.fin k (by omega)
      have h3 := h.mono k (by omega)
      have h4 := h.bg_le (m - (k + 1)) (k + 1) (by omega)
      have := pendF_at c n (bg (k + 1) - 1) (by omega) h1 (n - bg k) (bg k) (by omega) (by omega) (fun j e1 e2 => h2 j e1 (by omega))
      unfold B.pfin
      rw [this]; omega
  · show ∃ u', (L ++ [u])[k]? = some u' ∧ Rd W u' (fun j => (c ((if k = m + 1 then n else bg k) + j) : Int)) ((if k + 1 = m + 1 then n else bg (k + 1)) - if k = m + 1 then n else bg k)
    rw [hb k (by omega)]
    by_cases e : k = m
    · subst e; rw [if_pos rfl]; exact ⟨u, by rw [← h.len]; simp, hu⟩
    · rw [if_neg (by omega)]
      obtain ⟨u', h1, h2⟩ := h.items k (by omega)
      have := h.len
      exact ⟨u', by rw [List.getElem?_append_left (by omega)]; exact h1, h2⟩
end Go.Proofs.Ytclblidfamabdaa

/- bidi.paragraphs: the walk. -/
set_option linter.unusedVariables false
set_option linter.unusedSimpArgs false
namespace Go.Proofs.Ytclblidfamabdaa
open Go.RowKit Go.Shelf Go.Lib Go.BigFrame
attribute [local go_sem] Oper.semAt_some

theorem Rd.tail {w : World} {A : Addr} {n cap q : Nat} {c : Nat → Nat} (h : Rd w (.slice (some A) n cap) (fun j => (c j : Int)) n) (hq : q ≤ n) : Rd w (.slice (some (A.add q)) (n - q) (cap - q)) (fun j => (c (q + j) : Int)) (n - q) := by
  obtain ⟨_, _, e, hcap, hc⟩ := h
  cases e
  refine ⟨_, _, rfl, by omega, fun hn => ?_⟩
  obtain ⟨g, o, e, h1⟩ := hc (by omega)
  cases e
  refine ⟨g, o + q, by rw [Go.WideShapes.add_plain], fun j hj => ?_⟩
  rw [Nat.add_assoc]
  exact h1 (q + j) (by omega)

set_option maxRecDepth 1000000 in
set_option maxHeartbeats 4000000 in
theorem paragraphs_any (n : Nat) (c : Nat → Nat) (v : Value) (w : World) (hn : n ≤ 4194304) (hR : Rd w v (fun j => (c j : Int)) n) :
    Calls Try.prog 31 #[v] w fun e w' => ∃ v' P bg L, e = .returned v' ∧ Below w.heap.size w w' ∧ w'.ownsRow w.heap.size 29 1 v' P L ∧ Pars w c n P bg L := by
  obtain ⟨i0, hi, hz0, hz1, hz2⟩ := info_parts Try.infoSI
  obtain ⟨A, cap, rfl, hcap, hc⟩ := hR
  have HC := Lib.hid hc
  clear hc
  go_enter Try.func31, Try.ntmps31
  go_wp2
  go_loopw [3, 4, 9] (fun ov av iv wr => ∃ (i m : Nat) (bg : Nat → Nat) (L : List Value), iv = .int .i64 (i : Int) ∧ i ≤ n ∧ av = .int .i64 (bg m : Int) ∧ Below w.heap.size w wr ∧ wr.ownsRow w.heap.size 29 1 ov m L ∧ Prs w c i m bg L) (fun _ _ iv _ => n - (RowKit.intOf iv).toNat)
  case atStart => exact ⟨0, 0, fun _ => 0, [], rfl, Nat.zero_le _, rfl, Below.refl _ _, World.ownsRow_nil _ _ _ _, Prs.start _ _⟩
  case round =>
    obtain ⟨i, m, bg, L, rfl, hin, rfl, hB, hrow, hP⟩ := hrel
    have hBs := hB.size
    by_cases hlt : i < n
    · obtain ⟨g, o, rfl, hcc⟩ := HC.out (by omega)
      have c0' := hcc i hlt
      have c0 : wr.cell? ⟨g, o + i, none⟩ = some (.int .i64 (c i : Int)) := (World.cell?_of_block (hB.block _ (World.block_lt_of_cell? _ _ c0'))).trans c0'
      clear c0'
      obtain ⟨x, hx⟩ : ∃ x, c i = x := ⟨_, rfl⟩
      rw [hx] at c0
      by_cases h1 : x = 1
      · have hml := hP.m_le m (Nat.le_refl _)
        have hbl := hP.le
        obtain ⟨bg', hb1, hb2⟩ := hP.part (hx.trans h1) (.slice (some ⟨g, o + bg m, none⟩) (i + 1 - bg m) (i + 1 - bg m)) ⟨_, _, rfl, Nat.le_refl _, fun _ => ⟨g, o + bg m, rfl, fun j hj => by rw [Nat.add_assoc]; exact hcc (bg m + j) (by omega)⟩⟩
        subst h1
        have HX := Lib.hid (And.intro hB (And.intro hb1 hb2))
        have HW := Lib.hid (And.intro hrow hP)
        obtain ⟨q, hq⟩ : ∃ q, bg m = q := ⟨_, rfl⟩
        rw [hq] at hml hbl HX ⊢
        have KB : Hid (∀ w2 o, (wr.alloc o).grownBy w2 u3.ownBlock → Below w.heap.size w w2) := Lib.hid (fun w2 o hg => (HX.out.1.alloc HX.out.1.size _).grown hg (by have := HX.out.1.size; simp; omega) (fun q e => (HW.out.1.lt q e).1))
        clear hB hb1 hb2 hrow hP hcc hx hq HC
        go_wp2_with (at_builtin; go_must (refine wpList_append_own_at _ rfl _ _ 50 rfl w.heap.size 29 i0 _ 1 24 Try.underlying50 hi hz0 hz1 hz2 rfl (by decide) _ _ _ rfl (HW.out.1.alloc _) ⟨wr.heap.size, 0, none⟩ 1 1 [.slice (some ⟨g, o + q, none⟩) (i + 1 - q) (i + 1 - q)] rfl rfl (World.news_of_block (World.alloc_heap_new wr _)) (by simp [Value.oneCell']) (by unfold maxLen; omega) (by omega) (by simp; omega) ?_); intro v' w2 hown hg _ _)
        go_roundw
        case rel => exact ⟨i + 1, m + 1, bg', _, by go_num, hlt, by rw [HX.out.2.1]; go_num, KB.out w2 _ hg, hown, HX.out.2.2⟩
        case measure => simp [RowKit.intOf]; omega
      · have b1 : ((x : Int) == 1) = false := by simp; omega
        have HX := Lib.hid (And.intro hB (And.intro hrow (hP.skip (by rw [hx]; exact h1))))
        clear hB hrow hP hcc hx HC
        go_wp2
        go_roundw
        case rel => exact ⟨i + 1, m, bg, L, by go_num, hlt, rfl, HX.out⟩
        case measure => simp [RowKit.intOf]; omega
    · obtain rfl : n = i := by omega
      have hbl := hP.le
      have HX := Lib.hid (And.intro hB (And.intro hrow hP))
      have hml := hP.m_le m (Nat.le_refl _)
      have KB : Hid (∀ w2 o, (wr.alloc o).grownBy w2 u3.ownBlock → Below w.heap.size w w2) := Lib.hid (fun w2 o hg => (HX.out.1.alloc HX.out.1.size _).grown hg (by have := HX.out.1.size; simp; omega) (fun q e => (HX.out.2.1.lt q e).1))
      obtain ⟨q, hq⟩ : ∃ q, bg m = q := ⟨_, rfl⟩
      have HQ := Lib.hid hq
      rw [hq] at hbl hml ⊢
      clear hB hrow hP hq
      rcases A with _ | A
      · have h0 : n = 0 := by
          rcases Nat.eq_zero_or_pos n with h | h
          · exact h
          · obtain ⟨g, o, h, _⟩ := HC.out h; cases h
        subst h0
        obtain rfl : q = 0 := by omega
        go_wp2_with (at_builtin; go_must (refine wpList_append_own_at _ rfl _ _ 50 rfl w.heap.size 29 i0 _ 1 24 Try.underlying50 hi hz0 hz1 hz2 rfl (by decide) _ _ _ rfl (HX.out.2.1.alloc _) ⟨wr.heap.size, 0, none⟩ 1 1 [.slice none 0 cap] rfl rfl (World.news_of_block (World.alloc_heap_new wr _)) (by simp [Value.oneCell']) (by unfold maxLen; omega) (by omega) (by simp; omega) ?_); intro v' w2 hown hg _ _)
        go_ret
        obtain ⟨bg', hb⟩ := HX.out.2.2.end (.slice none 0 cap) ⟨_, _, by rw [HQ.out], by omega, fun h => absurd h (by omega)⟩
        exact ⟨_, _, bg', _, rfl, KB.out w2 _ hg, hown, hb⟩
      · have HT := (Rd.tail (q := q) ⟨_, _, rfl, hcap, HC.out⟩ hbl : Rd w (.slice (some (A.add q)) (n - q) (cap - q)) (fun j => (c (q + j) : Int)) (n - q))
        have HT2 := Lib.hid HT
        clear HT HC
        by_cases hqc : q = cap
        · subst hqc
          obtain rfl : n = q := by omega
          go_wp2_with (at_builtin; go_must (refine wpList_append_own_at _ rfl _ _ 50 rfl w.heap.size 29 i0 _ 1 24 Try.underlying50 hi hz0 hz1 hz2 rfl (by decide) _ _ _ rfl (HX.out.2.1.alloc _) ⟨wr.heap.size, 0, none⟩ 1 1 [_] rfl rfl (World.news_of_block (World.alloc_heap_new wr _)) (by simp [Value.oneCell']) (by unfold maxLen; omega) (by omega) (by simp; omega) ?_); intro v' w2 hown hg _ _)
          go_ret
          obtain ⟨bg', hb⟩ := HX.out.2.2.end (.slice (some A) 0 0) ⟨_, _, by rw [HQ.out, Nat.sub_self], Nat.le_refl _, fun h => absurd h (by rw [HQ.out]; omega)⟩
          exact ⟨_, _, bg', _, rfl, KB.out w2 _ hg, by simpa using hown, hb⟩
        · have hqc' : q < cap := by omega
          go_wp2_with (at_builtin; go_must (refine wpList_append_own_at _ rfl _ _ 50 rfl w.heap.size 29 i0 _ 1 24 Try.underlying50 hi hz0 hz1 hz2 rfl (by decide) _ _ _ rfl (HX.out.2.1.alloc _) ⟨wr.heap.size, 0, none⟩ 1 1 [.slice (some (A.add q)) (n - q) (cap - q)] rfl rfl (World.news_of_block (World.alloc_heap_new wr _)) (by simp [Value.oneCell']) (by unfold maxLen; omega) (by omega) (by simp; omega) ?_); intro v' w2 hown hg _ _)
          go_ret
          obtain ⟨bg', hb⟩ := HX.out.2.2.end _ (by rw [HQ.out]; exact HT2.out)
          exact ⟨_, _, bg', _, rfl, KB.out w2 _ hg, hown, hb⟩
end Go.Proofs.Ytclblidfamabdaa
