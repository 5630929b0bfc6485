/- The document's matched. -/
import Derived.Test.YtclblidfamabdaaG16
import Derived.Test.YtclblidfamabdaaG2
import Derived.BigRegion
import Derived.RegionTactic
set_option linter.unusedVariables false
set_option linter.unusedSimpArgs false
namespace Go.Proofs.Ytclblidfamabdaa
open Go.RowKit Go.Shelf Go.Lib Go.BigFrame
attribute [local go_sem] Oper.semAt_some

/-- What the loop of the document's matched knows. -/
structure Mr (w : World) (pb gc n b0 : Nat) (sv : Value) (m : B.M) (ov : Value) (wr : World) : Prop where
  fr : Fr (fun _ => True) w wr
  box : wr.heap[pb]? = some (.cells #[sv, .slice (some ⟨gc, 0, none⟩) n n] 64 (0, 0))
  cl : Rw wr gc (fun j => (m.cl j : Int)) n
  op : wr.ownsRow b0 3 1 ov m.h (ns (fun j => (m.st j : Int)) m.h)
  ix : w.heap.size ≤ gc ∧ gc < pb ∧ pb < b0 ∧ b0 ≤ wr.heap.size
theorem Mr.cells {w : World} {pb gc n b0 : Nat} {sv ov : Value} {m : B.M} {wr : World} (h : Mr w pb gc n b0 sv m ov wr) : wr.cell? ⟨pb, 0, none⟩ = some sv ∧ wr.cell? ⟨pb, 1, none⟩ = some (.slice (some ⟨gc, 0, none⟩) n n) := by
  constructor <;> simp [World.cell?, h.box]
theorem blk_set {W : World} {p q k : Nat} {v : Value} {o : Obj} (h : W.heap[p]? = some o) (hne : p ≠ q) : (W.setCell ⟨q, k, none⟩ v).heap[p]? = some o :=
  ((((Fr.refl (fun i => i ≠ q) W).setCell ⟨q, k, none⟩ v (fun _ hh => hh rfl)).block p (Array.getElem?_eq_some_iff.1 h).1 hne)).trans h
theorem set_val (cl : Nat → Nat) (i e j : Nat) : upd (fun j => (cl j : Int)) i (e : Int) j = (B.set cl i e j : Int) := by
  unfold upd B.set; split <;> rfl
theorem Mr.push {w : World} {pb gc n b0 : Nat} {sv ov v' : Value} {m : B.M} {wr w2 : World} (h : Mr w pb gc n b0 sv m ov wr) (i e : Nat) (o : Obj) (hg : (wr.alloc o).grownBy w2 ov.ownBlock) (hown : w2.ownsRow b0 3 1 v' (m.h + 1) (ns (fun j => (m.st j : Int)) m.h ++ [.int .i64 (i : Int)])) :
    Mr w pb gc n b0 sv { m with cl := B.set m.cl i e, st := B.set m.st m.h i, h := m.h + 1 } v' (w2.setCell ⟨gc, i, none⟩ (.int .i64 (e : Int))) ∧ Rw w2 gc (fun j => (m.cl j : Int)) n ∧ w2.cell? ⟨pb, 1, none⟩ = some (.slice (some ⟨gc, 0, none⟩) n n) := by
  have h2 := h.ix
  have hlt := h.op.lt
  have hcl2 : Rw w2 gc (fun j => (m.cl j : Int)) n := (h.cl.alloc o).grown hg (fun e => by have := (hlt gc e).1; omega)
  have hs := hg.size
  simp only [World.size_alloc] at hs
  have hb2 : w2.heap[pb]? = some (.cells #[sv, .slice (some ⟨gc, 0, none⟩) n n] 64 (0, 0)) := by
    refine (hg.block pb (by simp; omega) (fun e => by have := (hlt pb e.symm).1; omega)).trans ?_
    rw [Below.heap_alloc wr o pb (by omega)]; exact h.box
  refine ⟨⟨((h.fr.alloc o).grown hg (fun q e hq => by have := (hlt q e).1; omega)).setCell _ _ (fun hl => absurd hl (by show ¬ gc < w.heap.size; omega)), blk_set hb2 (by omega), (hcl2.set i (e : Int)).congr (fun j _ => set_val m.cl i e j), own_set ?_ (by omega), h2.1, h2.2.1, h2.2.2.1, by rw [size_setCell]; omega⟩, hcl2, by simp [World.cell?, hb2]⟩
  show w2.ownsRow b0 3 1 v' (m.h + 1) (ns (fun j => (B.set m.st m.h i j : Int)) (m.h + 1))
  rw [ns_succ, show ((B.set m.st m.h i m.h : Nat) : Int) = (i : Int) by rw [B.set_at], ns_congr (d := fun j => (m.st j : Int)) (fun j hj => by rw [B.set_ne _ _ (by omega)])]
  exact hown
theorem Mr.pop {w : World} {pb gc n b0 : Nat} {sv : Value} {m : B.M} {A : Option Addr} {cap : Nat} {wr : World} (h : Mr w pb gc n b0 sv m (.slice A m.h cap) wr) (i : Nat) (hh : 0 < m.h) : Mr w pb gc n b0 sv { m with cl := B.set m.cl (m.st (m.h - 1)) i, h := m.h - 1 } (.slice A (m.h - 1) cap) (wr.setCell ⟨gc, m.st (m.h - 1), none⟩ (.int .i64 (i : Int))) := by
  have h2 := h.ix
  have hA : A ≠ none := fun e => by
    subst e
    rcases h.op.2 with ⟨_, h0⟩ | ⟨g', _, _, h1, _⟩
    · omega
    · cases h1
  exact ⟨h.fr.setCell _ _ (fun hl => absurd hl (by show ¬ gc < w.heap.size; omega)), blk_set h.box (by omega), (h.cl.set _ (i : Int)).congr (fun j _ => set_val m.cl _ i j), own_set (own_take h.op (Nat.sub_le _ _) hA) (by omega), h2.1, h2.2.1, h2.2.2.1, by rw [size_setCell]; exact h2.2.2.2⟩
theorem Mr.drew {w : World} {pb gc n b0 : Nat} {sv ov : Value} {m : B.M} {wr : World} (h : Mr w pb gc n b0 sv m ov wr) : Mr w pb gc n b0 sv m ov wr.drew :=
  ⟨h.fr.drew, h.box, h.cl.fr (S := fun _ => True) ((Fr.refl _ _).drew) trivial, ownsRow_fr (S := fun _ => True) h.op ((Fr.refl _ _).drew) (fun _ _ => trivial), h.ix⟩
theorem Mr.pl {w : World} {pb gc n b0 : Nat} {sv ov : Value} {m : B.M} {wr : World} (h : Mr w pb gc n b0 sv m ov wr) (p : Nat) (ch : Nat → Nat) : Mr w pb gc n b0 sv { m with pl := p, ch := ch } ov wr := ⟨h.fr, h.box, h.cl, h.op, h.ix⟩

set_option maxRecDepth 1000000 in
set_option maxHeartbeats 16000000 in
theorem matchedR_any (A : Option Addr) (n cap : Nat) (c : Nat → Nat) (w : World) (hn : n ≤ 4194304) (hc : Rd w (.slice A n cap) (fun j => (c j : Int)) n) :
    Calls Try.prog 39 #[.slice A n cap] w fun e w' => ∃ pb, e = .returned (.pointer (some ⟨pb, 0, none⟩)) ∧ Below w.heap.size w w' ∧ w.heap.size ≤ pb ∧ pb < w'.heap.size ∧ w'.cell? ⟨pb, 0, none⟩ = some (.slice A n cap) ∧ ∃ gc, w'.cell? ⟨pb, 1, none⟩ = some (.slice (some ⟨gc, 0, none⟩) n n) ∧ w.heap.size ≤ gc ∧ Rw w' gc (fun j => (B.clo c n j : Int)) n := by
  obtain ⟨i0, hi, hz0, hz1, hz2⟩ := info_parts Try.infoIn
  have hmk : ∀ W : World, (Instr.makeSlice 29 (.int .i64 (n : Int)) (.int .i64 (n : Int))).run Try.prog W = .ok (.slice (some ⟨W.heap.size, 0, none⟩) n n) (W.alloc (.cells (madeCells (Value.int .i64 0).cells n) 3)) := fun W => by
    have := run_make (P := Try.prog) W 29 3 i0 _ Try.underlying29 hi hz0 .i64 .i64 (n : Int) (n : Int) (by omega) (by omega) (by rw [hz2]; omega) (by omega)
    rw [this, hz1, Int.toNat_natCast, Nat.mul_one]
  have HM := Lib.hid (make_rw w n)
  have OPN := Lib.hid (fun x w => opens_any x w)
  obtain ⟨MC, hMC⟩ : ∃ M, madeCells (Value.int .i64 0).cells n = M := ⟨_, rfl⟩
  rw [hMC] at hmk HM
  clear hMC
  obtain ⟨CA, cc, hv, hcap, hcc⟩ := hc
  cases hv
  obtain ⟨e, he⟩ : ∃ e, B.pend c n = e := ⟨_, rfl⟩
  have hen : e ≤ n := by rw [← he]; unfold B.pend; split <;> omega
  have HE := Lib.hid he
  have HC : Hid (∀ W, Fr (fun _ => True) w W → 0 < n → ∃ g o, A = some ⟨g, o, none⟩ ∧ ∀ j, j < n → W.cell? ⟨g, o + j, none⟩ = some (.int .i64 (c j : Int))) := Lib.hid (fun W hf h0 => by
    obtain ⟨g, o, e1, h1⟩ := hcc h0
    exact ⟨g, o, e1, fun j hj => hf.cell (h1 j hj) trivial⟩)
  have HFIN : Hid (∀ ov W, Mr w (w.heap.size + 1) w.heap.size n (w.heap.size + 2) (.slice A n cap) (B.mrun c e e) ov W → Below w.heap.size w W ∧ w.heap.size ≤ w.heap.size + 1 ∧ w.heap.size + 1 < W.heap.size ∧ W.cell? ⟨w.heap.size + 1, 0, none⟩ = some (.slice A n cap) ∧ ∃ gc, W.cell? ⟨w.heap.size + 1, 1, none⟩ = some (.slice (some ⟨gc, 0, none⟩) n n) ∧ w.heap.size ≤ gc ∧ Rw W gc (fun j => (B.clo c n j : Int)) n) := Lib.hid (fun ov W h => by
    refine ⟨h.fr.toBelow (fun _ _ => trivial) (Nat.le_refl _), Nat.le_succ _, by have := h.ix; omega, h.cells.1, _, h.cells.2, Nat.le_refl _, ?_⟩
    unfold B.clo; rw [HE.out]; exact h.cl)
  have H0 : Hid (Mr w (w.heap.size + 1) w.heap.size n (w.heap.size + 2) (.slice A n cap) (B.mrun c e 0) (.slice none 0 0) ((w.alloc (.cells MC 3)).alloc (.cells #[.slice A n cap, .slice (some ⟨w.heap.size, 0, none⟩) n n] 64))) := Lib.hid
    ⟨((Fr.refl _ _).alloc _).alloc _, by simpa using World.alloc_heap_new (w.alloc (.cells MC 3)) _, HM.out.alloc _, World.ownsRow_nil _ _ _ _, by simp⟩
  have HLAST : Hid (0 < n → ∀ W, Fr (fun _ => True) w W → ∃ g o, A = some ⟨g, o, none⟩ ∧ W.cell? ⟨g, o + (n - 1), none⟩ = some (.int .i64 (c (n - 1) : Int))) := Lib.hid (fun h0 W hf => by
    obtain ⟨g, o, e1, h1⟩ := HC.out W hf h0
    exact ⟨g, o, e1, h1 (n - 1) (by omega)⟩)
  clear he hcc HM
  go_enter Try.func39, Try.ntmps39
  go_upto_region 3 with fail
  go_cut [25] (fun s25 wx => s25 = .bool (decide (e < n)) ∧ wx = (w.alloc (.cells MC 3)).alloc (.cells #[.slice A n cap, .slice (some ⟨w.heap.size, 0, none⟩) n n] 64))
  case first =>
    have hf := H0.out.fr
    rcases Nat.eq_zero_or_pos n with h0 | h0
    · subst h0
      go_wp2
      go_meet
      exact ⟨by rw [decide_eq_false (show ¬ e < 0 by omega)], by trivial⟩
    · obtain ⟨g, o, rfl, c0⟩ := HLAST.out h0 _ hf
      obtain ⟨x, hx⟩ : ∃ x, c (n - 1) = x := ⟨_, rfl⟩
      obtain ⟨m, hm⟩ : ∃ m, n - 1 = m := ⟨_, rfl⟩
      have HBE := Lib.hid (show e = if x = 1 then m else n by
        rw [← HE.out]; unfold B.pend
        rw [hx, hm]
        by_cases h1 : x = 1
        · rw [if_pos ⟨h0, h1⟩, if_pos h1]
        · rw [if_neg (fun h => h1 h.2), if_neg h1])
      rw [hx, hm] at c0
      have e1 : ((n : Int) - 1) = (m : Int) := by omega
      have hmn : m < n := by omega
      clear hx hm hf
      by_cases h1 : x = 1
      · have b1 : ((x : Int) == 1) = true := by simp; omega
        rw [if_pos h1] at HBE
        go_wp2
        go_meet
        exact ⟨by rw [decide_eq_true (show e < n by have := HBE.out; omega)], by trivial⟩
      · have b1 : ((x : Int) == 1) = false := by simp; omega
        rw [if_neg h1] at HBE
        go_wp2
        go_meet
        exact ⟨by rw [decide_eq_false (show ¬ e < n by have := HBE.out; omega)], by trivial⟩
  case rest =>
    obtain ⟨h25, hwc⟩ := hcut
    rw [← hwc] at H0
    subst h25
    clear hwc
    have hnb := H0.out.ix
    go_upto_if 25 with fail
    go_cut [4] (fun s4 wx => s4 = .int .i64 (e : Int) ∧ wx = wc)
    case first =>
      by_cases h : e < n
      · have d1 : decide (e < n) = true := decide_eq_true h
        have e1 : ((n : Int) - 1) = (e : Int) := by
          have := HE.out; unfold B.pend at this; split at this <;> omega
        go_wp2
        go_meet
        exact ⟨by first | rfl | go_num, rfl⟩
      · have d1 : decide (e < n) = false := decide_eq_false h
        have e1 : n = e := by omega
        go_wp2
        go_meet
        exact ⟨by rw [e1], rfl⟩
    case rest =>
      obtain ⟨h4, hwc2⟩ := hcut
      subst h4
      rw [← hwc2] at H0
      clear hwc2 hmk hnb HLAST
      have hsz := H0.out.ix
      go_wp2
      go_loopw [5, 6, 7] (fun ov pv iv wr => ∃ i : Nat, iv = .int .i64 (i : Int) ∧ i ≤ e ∧ pv = .int .i64 ((B.mrun c e i).pl : Int) ∧ Mr w (w.heap.size + 1) w.heap.size n (w.heap.size + 2) (.slice A n cap) (B.mrun c e i) ov wr) (fun _ _ iv _ => e - (RowKit.intOf iv).toNat)
      case atStart => exact ⟨0, rfl, Nat.zero_le _, rfl, H0.out⟩
      case round =>
        clear H0 hsz
        obtain ⟨i, rfl, hie, rfl, hMr⟩ := hrel
        by_cases hlt : i < e
        · have hmo := B.mok c e (by omega) i hie
          have HSt : Hid (B.mrun c e (i + 1) = B.mstep c e (B.mrun c e i) i) := Lib.hid rfl
          obtain ⟨q, hq⟩ : ∃ q, B.mrun c e i = q := ⟨_, rfl⟩
          rw [hq] at hmo hMr HSt ⊢
          have hin : i < n := by omega
          obtain ⟨cg, co, rfl, hcc⟩ := HC.out _ hMr.fr (by omega)
          have l0c := hcc i hin
          obtain ⟨A6, c6, hu6, hc6, hA6⟩ := ownN_form hMr.op
          subst hu6
          have hop := hMr.op
          have hopl := hop.lt
          have hix := hMr.ix
          have c1b := hMr.cells.2
          have hqh := hmo.h
          have hqi := hmo.hi
          have hqp := hmo.pl
          have hst := hmo.st_lt
          obtain ⟨P, hP⟩ : ∃ P, q.pl = P := ⟨_, rfl⟩
          obtain ⟨H, hH⟩ : ∃ H, q.h = H := ⟨_, rfl⟩
          rw [hP] at hqp ⊢
          rw [hH] at hqh hqi hop hst hA6 hc6 hMr ⊢
          have HMr := Lib.hid hMr
          have HPq := Lib.hid hP
          have HHq := Lib.hid hH
          have HPLq : Hid (Value.int .i64 (P : Int) = .int .i64 (q.pl : Int)) := Lib.hid (by rw [hP])
          obtain ⟨x, hx⟩ : ∃ x, c i = x := ⟨_, rfl⟩
          rw [hx] at l0c
          have OPx := OPN.out x
          obtain ⟨ob, hob⟩ : ∃ b, B.isOp x = b := ⟨_, rfl⟩
          rw [hob] at OPx
          have OPx := Lib.hid OPx
          have HX := Lib.hid hx
          have HOB := Lib.hid (show B.isOp (c i) = ob by rw [hx, hob])
          clear hmo hMr hq hcc hP hH hx hob
          cases ob
          · by_cases h12 : x = 12
            · have hx12 : c i = 12 := HX.out.trans h12
              have b12 : ((x : Int) == 12) = true := by simp; omega
              clear h12
              by_cases hP0 : 0 < P
              · have HS := Lib.hid (HSt.out.trans (ms_plain hx12 (by rw [HPq.out]; exact hP0)))
                have dP : decide (0 < P) = true := decide_eq_true hP0
                have dP2 : decide ((0 : Int) < (P : Int)) = true := decide_eq_true (by omega)
                clear hx12
                go_wp2_with (go_at_call 62; (with_reducible refine (OPx.out _).mono ?_); rintro e2 w2 ⟨rfl, rfl⟩)
                go_roundw
                case rel => exact ⟨i + 1, by go_num, by omega, by rw [HS.out]; show Value.int .i64 _ = .int .i64 ((q.pl - 1 : Nat) : Int); rw [HPq.out]; go_num, by rw [HS.out]; exact HMr.out.pl _ _⟩
                case measure => simp [RowKit.intOf]; omega
              · have dP : decide (0 < P) = false := decide_eq_false hP0
                have dP2 : decide ((0 : Int) < (P : Int)) = false := decide_eq_false (by omega)
                by_cases hH0 : 0 < H
                · have HS := Lib.hid (HSt.out.trans (ms_pop hx12 (by rw [HPq.out]; exact hP0) (by rw [HHq.out]; exact hH0)))
                  have dH : decide (0 < H) = true := decide_eq_true hH0
                  have dH2 : decide ((0 : Int) < (H : Int)) = true := decide_eq_true (by omega)
                  obtain ⟨g6, rfl⟩ := hA6 hH0
                  have o0 := (row_rw hop).at (show H - 1 < H by omega)
                  have hsl := hst (H - 1) (by omega)
                  obtain ⟨y, hy⟩ : ∃ y, q.st (H - 1) = y := ⟨_, rfl⟩
                  rw [hy] at o0 hsl
                  obtain ⟨K, hK⟩ : ∃ K, H - 1 = K := ⟨_, rfl⟩
                  rw [hK] at o0 hy
                  have e1 : ((H : Int) - 1) = (K : Int) := by omega
                  have o1 := o0.1
                  obtain ⟨u1, c1⟩ : ∃ u, wr.cell? ⟨w.heap.size, y, none⟩ = some u := ⟨_, (HMr.out.cl.at (show y < n by omega)).1⟩
                  have f1 := (HMr.out.cl.at (show y < n by omega)).2
                  have HPO : Hid (Mr w (w.heap.size + 1) w.heap.size n (w.heap.size + 2) (.slice (some ⟨cg, co, none⟩) n cap) (B.mrun c e (i + 1)) (.slice (some ⟨g6, 0, none⟩) K c6) (wr.setCell ⟨w.heap.size, y, none⟩ (.int .i64 (i : Int)))) := Lib.hid (by
                    have := Mr.pop (m := q) (A := some ⟨g6, 0, none⟩) (cap := c6) (by rw [HHq.out]; exact HMr.out) i (by rw [HHq.out]; exact hH0)
                    rw [HHq.out, hK, hy] at this
                    rw [HS.out, HHq.out, hK, hy]
                    exact this)
                  have hKc : K ≤ c6 := by omega
                  have hyn : y < n := by omega
                  clear hx12 o0 hy hK
                  go_wp2_with (go_at_call 62; (with_reducible refine (OPx.out _).mono ?_); rintro e2 w2 ⟨rfl, rfl⟩)
                  go_region
                  go_wp2
                  go_roundw
                  case rel => exact ⟨i + 1, by go_num, by omega, by rw [HS.out]; exact HPLq.out, HPO.out.drew⟩
                  case measure => simp [RowKit.intOf]; omega
                · have dH : decide (0 < H) = false := decide_eq_false hH0
                  have dH2 : decide ((0 : Int) < (H : Int)) = false := decide_eq_false (by omega)
                  have HS := Lib.hid (HSt.out.trans (ms_none hx12 (by rw [HPq.out]; exact hP0) (by rw [HHq.out]; exact hH0)))
                  clear hx12
                  go_wp2_with (go_at_call 62; (with_reducible refine (OPx.out _).mono ?_); rintro e2 w2 ⟨rfl, rfl⟩)
                  go_roundw
                  case rel => exact ⟨i + 1, by go_num, by omega, by rw [HS.out]; exact HPLq.out, by rw [HS.out]; exact HMr.out.pl _ _⟩
                  case measure => simp [RowKit.intOf]; omega
            · have b12 : ((x : Int) == 12) = false := by simp; omega
              have HS := Lib.hid (HSt.out.trans (ms_other HOB.out (by rw [HX.out]; exact h12)))
              go_wp2_with (go_at_call 62; (with_reducible refine (OPx.out _).mono ?_); rintro e2 w2 ⟨rfl, rfl⟩)
              go_roundw
              case rel => exact ⟨i + 1, by go_num, by omega, by rw [HS.out]; exact HPLq.out, by rw [HS.out]; exact HMr.out⟩
              case measure => simp [RowKit.intOf]; omega
          · by_cases h60 : H = 60
            · have HS := Lib.hid (HSt.out.trans (ms_full HOB.out (HHq.out.trans h60)))
              subst h60
              go_wp2_with (go_at_call 62; (with_reducible refine (OPx.out _).mono ?_); rintro e2 w2 ⟨rfl, rfl⟩)
              go_roundw
              case rel => exact ⟨i + 1, by go_num, by omega, by rw [HS.out]; show Value.int .i64 _ = .int .i64 ((q.pl + 1 : Nat) : Int); rw [HPq.out]; go_num, by rw [HS.out]; exact HMr.out.pl _ _⟩
              case measure => simp [RowKit.intOf]; omega
            · have HS := Lib.hid (HSt.out.trans (ms_push HOB.out (fun h => h60 (HHq.out.symm.trans h))))
              have b60 : ((H : Int) == 60) = false := by simp; omega
              go_wp2_with (first
                | (go_at_call 62; (with_reducible refine (OPx.out _).mono ?_); rintro e2 w2 ⟨rfl, rfl⟩)
                | (at_builtin; go_must (refine wpList_append_own _ rfl _ _ 29 rfl (w.heap.size + 2) 3 i0 _ 1 8 Try.underlying29 hi hz0 hz1 hz2 rfl (by decide) _ _ _ rfl (hop.alloc _) ⟨wr.heap.size, 0, none⟩ 1 1 [.int .i64 (i : Int)] rfl rfl (World.news_of_block (World.alloc_heap_new wr _)) (by simp [Value.oneCell']) (by unfold maxLen; omega) (by omega) (by simp; omega) ?_); intro v' w2 hown hg _; have HPU := Lib.hid (HMr.out.push (v' := v') i e _ hg (by rw [HHq.out]; exact hown)); have f1 := (HPU.out.2.1.at hin).2; have c2b := HPU.out.2.2; obtain ⟨u1, c1⟩ : ∃ u, w2.cell? ⟨w.heap.size, i, none⟩ = some u := ⟨_, (HPU.out.2.1.at hin).1⟩; clear hown hg)
                | fail)
              go_roundw
              case rel => exact ⟨i + 1, by go_num, by omega, by rw [HS.out]; exact HPLq.out, by rw [HS.out]; exact HPU.out.1⟩
              case measure => simp [RowKit.intOf]; omega
        · obtain rfl : e = i := by omega
          have HF := Lib.hid (HFIN.out _ _ hMr)
          clear hMr
          go_wp2
          go_ret
          exact ⟨_, rfl, HF.out⟩
end Go.Proofs.Ytclblidfamabdaa
