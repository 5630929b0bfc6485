/- bidi.match: isolates and where they close. -/
import Derived.Test.YtclblidfamabdaaBdCl
import Derived.Deep.DeepCutAuto
set_option linter.unusedVariables false
set_option linter.unusedSimpArgs false
namespace Go.Proofs.Ytclblidfamabdaa
open Go.RowKit Go.Shelf Go.Lib Go.BigFrame
attribute [local go_sem] Oper.semAt_some

theorem Rw.grown {w w' : World} {g : Nat} {c : Nat → Int} {n : Nat} {row : Option Nat} (h : Rw w g c n) (hg : w.grownBy w' row) (hne : row ≠ some g) : Rw w' g c n := by
  have hl := h.lt
  obtain ⟨cur, h1, h2, h3⟩ := h
  exact ⟨cur, (hg.block g hl (fun e => hne e.symm)).trans h1, h2, h3⟩
theorem Rw.alloc {w : World} {g : Nat} {c : Nat → Int} {n : Nat} (h : Rw w g c n) (o : Obj) : Rw (w.alloc o) g c n :=
  h.fr (S := fun _ => True) ((Fr.refl _ _).alloc o) trivial
/-- A row made shorter. -/
theorem own_take {w : World} {b n m cap : Nat} {A : Option Addr} {c : Nat → Int} (h : w.ownsRow b 3 1 (.slice A n cap) n (ns c n)) (hm : m ≤ n) (hA : A ≠ none) : w.ownsRow b 3 1 (.slice A m cap) m (ns c m) := by
  refine ⟨by rw [ns_length]; omega, .inr ?_⟩
  rcases h.2 with ⟨h1, _⟩ | ⟨g, cap', cur, h1, h2, h3, h4, h5, h6, h7⟩
  · cases h1; exact absurd rfl hA
  · cases h1
    refine ⟨g, cap, cur, rfl, h2, h3, by omega, h5, h6, ?_⟩
    rw [← ns_take c hm, ← h7, List.take_take]
    congr 1; omega
theorem own_set {w : World} {b n : Nat} {v : Value} {xs : List Value} {q k : Nat} {u : Value} (h : w.ownsRow b 3 1 v n xs) (hq : q < b) : (w.setCell ⟨q, k, none⟩ u).ownsRow b 3 1 v n xs :=
  ownsRow_fr (S := fun i => i ≠ q) h ((Fr.refl _ _).setCell _ _ (fun _ hh => hh rfl)) (fun i hi => by show i ≠ q; omega)

/-- What the second loop of match knows. -/
structure Ma (w : World) (g gc n b0 : Nat) (m : B.M) (ov : Value) (wr : World) : Prop where
  fr : Fr (fun k => k ≠ g) w wr
  cl : Rw wr gc (clI m.cl) n
  l0 : 0 < n → Rw wr g (fun j => (m.ch j : Int)) n
  op : wr.ownsRow b0 3 1 ov m.h (ns (fun j => (m.st j : Int)) m.h)
  gc_ : gc < b0 ∧ w.heap.size ≤ gc ∧ b0 ≤ wr.heap.size
  g_ : 0 < n → g < w.heap.size
theorem size_setCell (w : World) (a : Addr) (v : Value) : (w.setCell a v).heap.size = w.heap.size := by simp [World.setCell]
theorem Ma.set0 {w : World} {g gc n b0 : Nat} {m : B.M} {ov : Value} {wr : World} (h : Ma w g gc n b0 m ov wr) (i pl : Nat) (hn : 0 < n) : Ma w g gc n b0 { m with pl := pl, ch := B.set m.ch i 16 } ov (wr.setCell ⟨g, i, none⟩ (.int .i64 16)) := by
  have h1 := h.g_ hn
  have h2 := h.gc_
  refine ⟨h.fr.setCell _ _ (fun _ hh => hh rfl), h.cl.other (by omega), fun _ => ((h.l0 hn).set i 16).congr (fun j _ => ?_), own_set h.op (by omega), by rw [size_setCell]; exact h.gc_, h.g_⟩
  unfold upd
  show _ = ((B.set m.ch i 16 j : Nat) : Int)
  unfold B.set
  split <;> rfl
theorem clI_set (cl : Nat → Nat) (i e : Nat) (he : e ≠ 0) (j : Nat) : upd (clI cl) i (e : Int) j = clI (B.set cl i e) j := by
  unfold upd clI B.set
  by_cases h : j = i
  · rw [if_pos h, if_pos h, if_neg he]
  · rw [if_neg h, if_neg h]
theorem Ma.push {w : World} {g gc n b0 : Nat} {m : B.M} {ov v' : Value} {wr w2 : World} (h : Ma w g gc n b0 m ov wr) (i e : Nat) (hn : 0 < n) (he : e ≠ 0) (o : Obj) (hg : (wr.alloc o).grownBy w2 ov.ownBlock) (hown : w2.ownsRow b0 3 1 v' (m.h + 1) (ns (fun j => (m.st j : Int)) m.h ++ [.int .i64 (i : Int)])) :
    Ma w g gc n b0 { m with cl := B.set m.cl i e, st := B.set m.st m.h i, h := m.h + 1 } v' (w2.setCell ⟨gc, i, none⟩ (.int .i64 (e : Int))) ∧ Rw w2 gc (clI m.cl) n := by
  have h2 := h.gc_
  have hlt := h.op.lt
  have hcl2 : Rw w2 gc (clI m.cl) n := (h.cl.alloc o).grown hg (fun e => by have := (hlt gc e).1; omega)
  have hs := hg.size
  simp only [World.size_alloc] at hs
  have h1 := h.g_ hn
  refine ⟨⟨((h.fr.alloc o).grown hg (fun q e hq => by have := (hlt q e).1; omega)).setCell _ _ (fun hl => absurd hl (by show ¬ gc < w.heap.size; omega)), (hcl2.set i (e : Int)).congr (fun j _ => clI_set m.cl i e he j), fun _ => (((h.l0 hn).alloc o).grown hg (fun e => by have := (hlt g e).1; omega)).other (by omega), own_set ?_ h2.1, ⟨h2.1, h2.2.1, by rw [size_setCell]; omega⟩, h.g_⟩, hcl2⟩
  show w2.ownsRow b0 3 1 v' (m.h + 1) (ns (fun j => (B.set m.st m.h i j : Int)) (m.h + 1))
  rw [ns_succ, show ((B.set m.st m.h i m.h : Nat) : Int) = (i : Int) by rw [B.set_at], ns_congr (d := fun j => (m.st j : Int)) (fun j hj => by rw [B.set_ne _ _ (by omega)])]
  exact hown
theorem Ma.pop {w : World} {g gc n b0 : Nat} {m : B.M} {A : Option Addr} {cap : Nat} {wr : World} (h : Ma w g gc n b0 m (.slice A m.h cap) wr) (i : Nat) (hi : i ≠ 0) (hn : 0 < n) (hh : 0 < m.h) : Ma w g gc n b0 { m with cl := B.set m.cl (m.st (m.h - 1)) i, h := m.h - 1 } (.slice A (m.h - 1) cap) (wr.setCell ⟨gc, m.st (m.h - 1), none⟩ (.int .i64 (i : Int))) := by
  have h2 := h.gc_
  have h1 := h.g_ hn
  have hA : A ≠ none := fun e => by
    subst e
    rcases h.op.2 with ⟨_, h0⟩ | ⟨g', _, _, h1, _⟩
    · omega
    · cases h1
  exact ⟨h.fr.setCell _ _ (fun hl => absurd hl (by show ¬ gc < w.heap.size; omega)), (h.cl.set _ (i : Int)).congr (fun j _ => clI_set m.cl _ i hi j), fun hn => (h.l0 hn).other (by omega), own_set (own_take h.op (Nat.sub_le _ _) hA) h2.1, ⟨h2.1, h2.2.1, by rw [size_setCell]; exact h2.2.2⟩, h.g_⟩

theorem ownN_form {w : World} {base : Nat} {e : TypeId} {sz n : Nat} {v : Value} {xs : List Value} (h : w.ownsRow base e sz v n xs) : ∃ A c, v = .slice A n c ∧ n ≤ c ∧ (0 < n → ∃ g, A = some ⟨g, 0, none⟩) := by
  rcases h.2 with ⟨rfl, rfl⟩ | ⟨g, cap, cur, rfl, _, _, h4, _⟩
  · exact ⟨none, 0, rfl, Nat.le_refl _, fun h => absurd h (by omega)⟩
  · exact ⟨_, cap, rfl, h4, fun _ => ⟨g, rfl⟩⟩
theorem ms_full {c : Nat → Nat} {e i : Nat} {q : B.M} (h1 : B.isOp (c i) = true) (h2 : q.h = 60) : B.mstep c e q i = { q with pl := q.pl + 1, ch := B.set q.ch i 16 } := by unfold B.mstep; rw [if_pos h1, if_pos h2]
theorem ms_push {c : Nat → Nat} {e i : Nat} {q : B.M} (h1 : B.isOp (c i) = true) (h2 : q.h ≠ 60) : B.mstep c e q i = { q with cl := B.set q.cl i e, st := B.set q.st q.h i, h := q.h + 1 } := by unfold B.mstep; rw [if_pos h1, if_neg h2]
theorem ms_plain {c : Nat → Nat} {e i : Nat} {q : B.M} (h1 : c i = 12) (h2 : 0 < q.pl) : B.mstep c e q i = { q with pl := q.pl - 1, ch := B.set q.ch i 16 } := by
  unfold B.mstep; rw [if_neg (by rw [h1]; decide), if_pos h1, if_pos h2]
theorem ms_pop {c : Nat → Nat} {e i : Nat} {q : B.M} (h1 : c i = 12) (h2 : ¬ 0 < q.pl) (h3 : 0 < q.h) : B.mstep c e q i = { q with cl := B.set q.cl (q.st (q.h - 1)) i, h := q.h - 1 } := by
  unfold B.mstep; rw [if_neg (by rw [h1]; decide), if_pos h1, if_neg h2, if_pos h3]
theorem ms_none {c : Nat → Nat} {e i : Nat} {q : B.M} (h1 : c i = 12) (h2 : ¬ 0 < q.pl) (h3 : ¬ 0 < q.h) : B.mstep c e q i = { q with ch := B.set q.ch i 16 } := by
  unfold B.mstep; rw [if_neg (by rw [h1]; decide), if_pos h1, if_neg h2, if_neg h3]
theorem ms_other {c : Nat → Nat} {e i : Nat} {q : B.M} (h1 : B.isOp (c i) = false) (h2 : c i ≠ 12) : B.mstep c e q i = q := by
  unfold B.mstep; rw [if_neg (by simp [h1]), if_neg h2]

set_option maxRecDepth 1000000 in
set_option maxHeartbeats 8000000 in
theorem match_any (A : Option Addr) (g n cap : Nat) (c : Nat → Nat) (w : World) (hn : n ≤ 4194304) (hcap : n ≤ cap) (hA : 0 < n → A = some ⟨g, 0, none⟩ ∧ Rw w g (fun j => (c j : Int)) n) :
    Calls Try.prog 34 #[.slice A n cap] w fun e w' => ∃ gc, e = .returned (.slice (some ⟨gc, 0, none⟩) n n) ∧ Fr (fun k => k ≠ g) w w' ∧ w.heap.size ≤ gc ∧ Rw w' gc (clI (B.clo c n)) n ∧ (0 < n → Rw w' g (fun j => (B.chg c n j : Int)) n) := by
  obtain ⟨i0, hi, hz0, hz1, hz2⟩ := info_parts Try.infoIn
  have hmk : ∀ W : World, (Instr.makeSlice 29 (.int .i64 (n : Int)) (.int .i64 (n : Int))).run Try.prog W = .ok (.slice (some ⟨W.heap.size, 0, none⟩) n n) (W.alloc (.cells (madeCells (Value.int .i64 0).cells n) 3)) := fun W => by
    have := run_make (P := Try.prog) W 29 3 i0 _ Try.underlying29 hi hz0 .i64 .i64 (n : Int) (n : Int) (by omega) (by omega) (by rw [hz2]; omega) (by omega)
    rw [this, hz1, Int.toNat_natCast, Nat.mul_one]
  have HA := Lib.hid hA
  rcases Nat.eq_zero_or_pos n with rfl | h0
  · have hM0 := make_rw w 0
    have HM := Lib.hid hM0
    have hmk0 : ∀ W : World, (Instr.makeSlice 29 (.int .i64 0) (.int .i64 0)).run Try.prog W = .ok (.slice (some ⟨W.heap.size, 0, none⟩) 0 0) (W.alloc (.cells (madeCells (Value.int .i64 0).cells 0) 3)) := fun W => hmk W
    clear hA hM0 hmk
    obtain ⟨MC, hMC⟩ : ∃ M, madeCells (Value.int .i64 0).cells 0 = M := ⟨_, rfl⟩
    rw [hMC] at hmk0 HM
    clear hMC
    go_enter Try.func34, Try.ntmps34
    go_wp2
    go_loopw [29] (fun iv wr => iv = .int .i64 0 ∧ wr = w.alloc (.cells MC 3)) (fun _ _ => 0)
    case atStart => exact ⟨rfl, rfl⟩
    case round =>
      obtain ⟨rfl, rfl⟩ := hrel
      go_wp2
      go_loopw [8] (fun iv wr => iv = .int .i64 0 ∧ wr = w.alloc (.cells MC 3)) (fun _ _ => 0)
      case atStart => exact ⟨rfl, rfl⟩
      case round =>
        obtain ⟨rfl, rfl⟩ := hrel
        go_wp2
        go_ret
        exact ⟨_, rfl, (Fr.refl _ _).alloc _, Nat.le_refl _, HM.out.congr (fun j hj => absurd hj (Nat.not_lt_zero _)), fun h => absurd h (by omega)⟩
  · obtain ⟨rfl, hw⟩ := hA h0
    obtain ⟨e, he⟩ : ∃ e, B.pend c n = e := ⟨_, rfl⟩
    have hen : e ≤ n := by rw [← he]; unfold B.pend; split <;> omega
    have HE := Lib.hid he
    have c0 := (hw.at (show n - 1 < n by omega)).1
    obtain ⟨x, hx⟩ : ∃ x, c (n - 1) = x := ⟨_, rfl⟩
    rw [hx] at c0
    obtain ⟨m, hm⟩ : ∃ m, n - 1 = m := ⟨_, rfl⟩
    rw [hm] at c0
    have e1 : ((n : Int) - 1) = (m : Int) := by omega
    obtain ⟨b, hb⟩ : ∃ b, ((x : Int) == 1) = b := ⟨_, rfl⟩
    have HBE := Lib.hid (show e = if b = true then m else n by
      rw [← he, ← hb]; unfold B.pend
      rw [hx, hm]
      by_cases h1 : x = 1
      · subst h1; rw [if_pos ⟨h0, rfl⟩]; rfl
      · rw [if_neg (fun h => h1 h.2), if_neg (by simp; omega)])
    have HW := Lib.hid hw
    clear he hx hm hw hA
    go_enter Try.func34, Try.ntmps34
    go_upto_if 21 with fail
    go_cut [3] (fun s3 wx => s3 = .int .i64 (e : Int) ∧ wx = w)
    case first =>
      cases b
      · have HB := HBE.out
        subst HB
        go_wp2_with fail
        go_meet
        exact ⟨rfl, rfl⟩
      · have HB := HBE.out
        subst HB
        go_wp2_with fail
        go_meet
        exact ⟨rfl, rfl⟩
    case rest =>
      obtain ⟨rfl, rfl⟩ := hcut
      clear HBE e1 hb c0
      have HM0 := Lib.hid (make_rw wc n)
      have hgl := HW.out.lt
      have HWA := Lib.hid (fun o => HW.out.alloc o)
      obtain ⟨MC, hMC⟩ : ∃ M, madeCells (Value.int .i64 0).cells n = M := ⟨_, rfl⟩
      rw [hMC] at hmk HM0
      clear hMC
      go_wp2
      go_loopw [29] (fun iv wr => ∃ k : Nat, iv = .int .i64 (k : Int) ∧ k ≤ n ∧ Fr (fun q => q ≠ wc.heap.size) (wc.alloc (.cells MC 3)) wr ∧ wr.heap.size = wc.heap.size + 1 ∧ Rw wr wc.heap.size (fun j => if j < k then -1 else 0) n) (fun iv _ => n - (intOf iv).toNat)
      case atStart => exact ⟨0, rfl, Nat.zero_le _, Fr.refl _ _, by simp, HM0.out.congr (fun j _ => by rw [if_neg (Nat.not_lt_zero _)])⟩
      case round =>
        obtain ⟨k, rfl, hk, hFr, hsz, hRw⟩ := hrel
        by_cases hlt : k < n
        · have f0 := (hRw.at hlt).2
          obtain ⟨u0, c0⟩ : ∃ u, wr.cell? ⟨wc.heap.size, k, none⟩ = some u := ⟨_, (hRw.at hlt).1⟩
          have HR := Lib.hid (And.intro hFr (And.intro hsz hRw))
          clear hFr hsz hRw
          go_wp2
          go_roundw
          case rel =>
            obtain ⟨q1, q2, q3⟩ := HR.out
            refine ⟨k + 1, by go_num, hlt, q1.setCell _ _ (fun _ h => h rfl), by rw [size_setCell]; exact q2, (q3.set k (-1)).congr (fun j hj => ?_)⟩
            unfold upd
            by_cases h1 : j = k
            · subst h1; rw [if_pos rfl, if_pos (by omega)]
            · rw [if_neg h1]
              show (if j < k then (-1 : Int) else 0) = _
              by_cases h2 : j < k
              · rw [if_pos h2, if_pos (by omega)]
              · rw [if_neg h2, if_neg (by omega)]
          case measure => simp [intOf]; omega
        · obtain rfl : n = k := by omega
          have hMa : Ma wc g wc.heap.size n (wc.heap.size + 1) (B.mrun c e 0) (.slice none 0 0) wr := ⟨(((Fr.refl (fun q => q ≠ g) wc).alloc _).below (n := wc.heap.size) (hFr.toBelow (fun q hq => by show q ≠ wc.heap.size; omega) (by simp)) (fun q hq _ => hq)), hRw.congr (fun j hj => by rw [if_pos hj]; rfl), fun _ => (HWA.out _).fr hFr (by show g ≠ wc.heap.size; omega), World.ownsRow_nil _ _ _ _, ⟨by omega, Nat.le_refl _, by omega⟩, fun _ => hgl⟩
          have HMA := Lib.hid hMa
          clear hFr hsz hRw hMa
          go_wp2
          go_loopw [6, 7, 8] (fun ov pv iv wr => ∃ i : Nat, iv = .int .i64 (i : Int) ∧ i ≤ e ∧ pv = .int .i64 ((B.mrun c e i).pl : Int) ∧ Ma wc g wc.heap.size n (wc.heap.size + 1) (B.mrun c e i) ov wr) (fun _ _ iv _ => e - (intOf iv).toNat)
          case atStart => exact ⟨0, rfl, Nat.zero_le _, rfl, HMA.out⟩
          case round =>
            clear HMA HM0 HWA hmk
            obtain ⟨i, rfl, hie, rfl, hMr⟩ := hrel
            by_cases hlt : i < e
            · have hmo := B.mok c e (by omega) i hie
              have HSt : Hid (B.mrun c e (i + 1) = B.mstep c e (B.mrun c e i) i) := Lib.hid rfl
              obtain ⟨q, hq⟩ : ∃ q, B.mrun c e i = q := ⟨_, rfl⟩
              rw [hq] at hmo hMr HSt ⊢
              have hin : i < n := by omega
              have hl0 := hMr.l0 h0
              have l0c := (hl0.at hin).1
              have l0f := (hl0.at hin).2
              have hco : ((q.ch i : Nat) : Int) = (c i : Int) := by rw [hmo.ch_out i (Nat.le_refl _)]
              rw [hco] at l0c
              obtain ⟨A6, c6, hu6, hc6, hA6⟩ := ownN_form hMr.op
              subst hu6
              have hop := hMr.op
              have hopl := hop.lt
              have hgc := hMr.gc_
              have hqh := hmo.h
              have hqi := hmo.hi
              have hqp := hmo.pl
              have hst := hmo.st_lt
              have hcl0 := (hMr.cl.at hin).2
              obtain ⟨P, hP⟩ : ∃ P, q.pl = P := ⟨_, rfl⟩
              obtain ⟨H, hH⟩ : ∃ H, q.h = H := ⟨_, rfl⟩
              rw [hP] at hqp ⊢
              rw [hH] at hqh hqi hop hst hA6 hc6 hMr ⊢
              have HMr := Lib.hid hMr
              have HPq := Lib.hid hP
              have HHq := Lib.hid hH
              have HPLq : Hid (Value.int .i64 (P : Int) = .int .i64 (q.pl : Int)) := Lib.hid (by rw [hP])
              obtain ⟨x, hx⟩ : ∃ x, c i = x := ⟨_, rfl⟩
              rw [hx] at l0c
              have HX := Lib.hid hx
              clear hmo hMr hq hl0 hco hP hH hx
              by_cases hop3 : x = 9 ∨ x = 10 ∨ x = 11
              · have hIs : B.isOp (c i) = true := by rw [HX.out]; rcases hop3 with h | h | h <;> subst h <;> rfl
                by_cases h60 : H = 60
                · have HS := Lib.hid (HSt.out.trans (ms_full hIs (HHq.out.trans h60)))
                  subst h60
                  rcases hop3 with rfl | rfl | rfl
                  all_goals (
                    go_wp2
                    go_roundw
                    case rel => exact ⟨i + 1, by go_num, by omega, by rw [HS.out]; show Value.int .i64 _ = .int .i64 ((q.pl + 1 : Nat) : Int); rw [HPq.out]; go_num, by rw [HS.out]; exact HMr.out.set0 i _ h0⟩
                    case measure => simp [intOf]; omega)
                · have HS := Lib.hid (HSt.out.trans (ms_push hIs (fun h => h60 (HHq.out.symm.trans h))))
                  have b60 : ((H : Int) == 60) = false := by simp; omega
                  rcases hop3 with rfl | rfl | rfl
                  all_goals (
                    go_wp2_with (at_builtin; go_must (refine wpList_append_own _ rfl _ _ 29 rfl (wc.heap.size + 1) 3 i0 _ 1 8 Try.underlying29 hi hz0 hz1 hz2 rfl (by decide) _ _ _ rfl (hop.alloc _) ⟨wr.heap.size, 0, none⟩ 1 1 [.int .i64 (i : Int)] rfl rfl (World.news_of_block (World.alloc_heap_new wr _)) (by simp [Value.oneCell']) (by unfold maxLen; omega) (by omega) (by simp; omega) ?_); intro v' w2 hown hg _; have HPU := Lib.hid (HMr.out.push (v' := v') i e h0 (by omega) _ hg (by rw [HHq.out]; exact hown)); have f1 := (HPU.out.2.at hin).2; obtain ⟨u1, c1⟩ : ∃ u, w2.cell? ⟨wc.heap.size, i, none⟩ = some u := ⟨_, (HPU.out.2.at hin).1⟩; clear hown hg)
                    go_roundw
                    case rel => exact ⟨i + 1, by go_num, by omega, by rw [HS.out]; exact HPLq.out, by rw [HS.out]; exact HPU.out.1⟩
                    case measure => simp [intOf]; omega)
              · have hno : B.isOp (c i) = false := by
                  rw [HX.out]
                  unfold B.isOp
                  rw [Bool.and_eq_false_iff, decide_eq_false_iff_not, decide_eq_false_iff_not]
                  omega
                have b9 : ((x : Int) == 9) = false := by simp; omega
                have b10 : ((x : Int) == 10) = false := by simp; omega
                have b11 : ((x : Int) == 11) = false := by simp; omega
                by_cases h12 : x = 12
                · have hx12 : c i = 12 := HX.out.trans h12
                  subst h12
                  clear b9 b10 b11
                  by_cases hP0 : 0 < P
                  · have HS := Lib.hid (HSt.out.trans (ms_plain hx12 (by rw [HPq.out]; exact hP0)))
                    clear hx12
                    go_wp2
                    go_roundw
                    case rel => exact ⟨i + 1, by go_num, by omega, by rw [HS.out]; show Value.int .i64 _ = .int .i64 ((q.pl - 1 : Nat) : Int); rw [HPq.out]; go_num, by rw [HS.out]; exact HMr.out.set0 i _ h0⟩
                    case measure => simp [intOf]; omega
                  · have dP : decide (0 < P) = false := decide_eq_false hP0
                    have dP2 : decide ((0 : Int) < (P : Int)) = false := decide_eq_false (by omega)
                    by_cases hH0 : 0 < H
                    · have HS := Lib.hid (HSt.out.trans (ms_pop hx12 (by rw [HPq.out]; exact hP0) (by rw [HHq.out]; exact hH0)))
                      obtain ⟨g6, rfl⟩ := hA6 hH0
                      have o0 := (row_rw hop).at (show H - 1 < H by omega)
                      have hsl := hst (H - 1) (by omega)
                      obtain ⟨y, hy⟩ : ∃ y, q.st (H - 1) = y := ⟨_, rfl⟩
                      rw [hy] at o0 hsl
                      obtain ⟨K, hK⟩ : ∃ K, H - 1 = K := ⟨_, rfl⟩
                      rw [hK] at o0 hy
                      have e1 : ((H : Int) - 1) = (K : Int) := by omega
                      have o1 := o0.1
                      obtain ⟨u1, c1⟩ : ∃ u, wr.cell? ⟨wc.heap.size, y, none⟩ = some u := ⟨_, (HMr.out.cl.at (show y < n by omega)).1⟩
                      have f1 := (HMr.out.cl.at (show y < n by omega)).2
                      have HPO : Hid (Ma wc g wc.heap.size n (wc.heap.size + 1) (B.mrun c e (i + 1)) (.slice (some ⟨g6, 0, none⟩) K c6) (wr.setCell ⟨wc.heap.size, y, none⟩ (.int .i64 (i : Int)))) := Lib.hid (by
                        have := Ma.pop (m := q) (A := some ⟨g6, 0, none⟩) (cap := c6) (by rw [HHq.out]; exact HMr.out) i (by omega) h0 (by rw [HHq.out]; exact hH0)
                        rw [HHq.out, hK, hy] at this
                        rw [HS.out, HHq.out, hK, hy]
                        exact this)
                      have hKc : K ≤ c6 := by omega
                      clear hx12 o0 hy hK
                      go_wp2
                      go_roundw
                      case rel => exact ⟨i + 1, by go_num, by omega, by rw [HS.out]; exact HPLq.out, HPO.out⟩
                      case measure => simp [intOf]; omega
                    · have dH : decide (0 < H) = false := decide_eq_false hH0
                      have dH2 : decide ((0 : Int) < (H : Int)) = false := decide_eq_false (by omega)
                      have HS := Lib.hid (HSt.out.trans (ms_none hx12 (by rw [HPq.out]; exact hP0) (by rw [HHq.out]; exact hH0)))
                      clear hx12
                      go_wp2
                      go_roundw
                      case rel => exact ⟨i + 1, by go_num, by omega, by rw [HS.out]; exact HPLq.out, by rw [HS.out]; exact HMr.out.set0 i q.pl h0⟩
                      case measure => simp [intOf]; omega
                · have b12 : ((x : Int) == 12) = false := by simp; omega
                  have HS := Lib.hid (HSt.out.trans (ms_other hno (by rw [HX.out]; exact h12)))
                  clear hno
                  go_wp2
                  go_roundw
                  case rel => exact ⟨i + 1, by go_num, by omega, by rw [HS.out]; exact HPLq.out, by rw [HS.out]; exact HMr.out⟩
                  case measure => simp [intOf]; omega
            · obtain rfl : e = i := by omega
              have HF := Lib.hid (And.intro hMr.fr (And.intro hMr.gc_.2.1 (And.intro hMr.cl hMr.l0)))
              clear hMr
              go_wp2
              go_ret
              obtain ⟨q1, q2, q3, q4⟩ := HF.out
              refine ⟨_, rfl, q1, q2, ?_, fun h => ?_⟩
              · unfold B.clo; rw [HE.out]; exact q3
              · unfold B.chg; rw [HE.out]; exact q4 h
end Go.Proofs.Ytclblidfamabdaa
