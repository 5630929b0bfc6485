/- Levels of a row: plain; isolate. -/
import Derived.Test.YtclblidfamabdaaBdX
import Derived.Deep.DrawnRows
import Derived.Deep.RegionHeld3
set_option linter.unusedVariables false
set_option linter.unusedSimpArgs false
namespace Go.Proofs.Ytclblidfamabdaa
open Go.RowKit Go.Shelf Go.Lib Go.BigFrame
attribute [local go_sem] Oper.semAt_some

theorem lev_item (c cl : Nat → Nat) (hup : B.Up cl) (f frm tz e n : Nat) : B.lev c cl (f + 1) frm tz e (B.itm cl frm n) = B.lvl e (B.res (B.sid e) (B.cnt cl frm tz) (fun m => c (B.itm cl frm m)) n) := by
  have hl : B.loc cl frm (B.itm cl frm n) = n := B.loc_is hup frm _ n (Nat.le_refl _) (B.itm_lt hup frm n (n + 1) (Nat.lt_succ_self n))
  unfold B.lev
  rw [hl, if_pos rfl]
theorem lev_in (c cl : Nat → Nat) (hup : B.Up cl) (f frm tz e n k : Nat) (h1 : B.itm cl frm n < k) (h2 : k < B.itm cl frm (n + 1)) : B.lev c cl (f + 1) frm tz e k = B.lev c cl f (B.itm cl frm n + 1) (cl (B.itm cl frm n)) (B.inn c cl e (B.itm cl frm n)) k := by
  have hl : B.loc cl frm k = n := B.loc_is hup frm _ n (by omega) h2
  rw [show B.lev c cl (f + 1) frm tz e k = if B.itm cl frm (B.loc cl frm k) = k then B.lvl e (B.res (B.sid e) (B.cnt cl frm tz) (fun n => c (B.itm cl frm n)) (B.loc cl frm k)) else B.lev c cl f (B.itm cl frm (B.loc cl frm k) + 1) (cl (B.itm cl frm (B.loc cl frm k))) (B.inn c cl e (B.itm cl frm (B.loc cl frm k))) k from rfl, hl, if_neg (by omega)]

/-- A paragraph in memory. -/
structure Px (W : World) (xb N gl : Nat) (fv cv clv : Value) (ch cl : Nat → Nat) : Prop where
  box : W.heap[xb]? = some (.cells #[fv, cv, clv, .slice (some ⟨gl, 0, none⟩) N N] 55 (0, 0))
  rc : Rd W cv (fun j => (ch j : Int)) N
  rcl : Rd W clv (clI cl) N
  ne : xb ≠ gl ∧ cv.ownBlock ≠ some gl ∧ clv.ownBlock ≠ some gl
theorem Px.fr {W W' : World} {xb N gl : Nat} {fv cv clv : Value} {ch cl : Nat → Nat} (h : Px W xb N gl fv cv clv ch cl) (hf : Fr (fun k => k ≠ gl) W W') : Px W' xb N gl fv cv clv ch cl :=
  ⟨(hf.block _ (Array.getElem?_eq_some_iff.1 h.box).1 h.ne.1).trans h.box, h.rc.fr hf (fun q e _ e2 => h.ne.2.1 (by rw [e, e2])), h.rcl.fr hf (fun q e _ e2 => h.ne.2.2 (by rw [e, e2])), h.ne⟩
theorem Px.cells {W : World} {xb N gl : Nat} {fv cv clv : Value} {ch cl : Nat → Nat} (h : Px W xb N gl fv cv clv ch cl) : W.cell? ⟨xb, 0, none⟩ = some fv ∧ W.cell? ⟨xb, 1, none⟩ = some cv ∧ W.cell? ⟨xb, 2, none⟩ = some clv ∧ W.cell? ⟨xb, 3, none⟩ = some (.slice (some ⟨gl, 0, none⟩) N N) := by
  refine ⟨?_, ?_, ?_, ?_⟩ <;> simp [World.cell?, h.box]
theorem Px.drewN {W : World} {xb N gl : Nat} {fv cv clv : Value} {ch cl : Nat → Nat} (h : Px W xb N gl fv cv clv ch cl) (n : Nat) : Px (W.drewN n) xb N gl fv cv clv ch cl := h.fr ((Fr.refl _ _).drewN n)

/-- What is asked of where isolates close. -/
structure ClOk (N : Nat) (ch cl : Nat → Nat) : Prop where
  up : B.Up cl
  le : ∀ x, x < N → cl x ≤ N
  nest : ∀ x y, x < y → y < cl x → cl y ≤ cl x
  ch : ∀ j, ch j ≤ 17
/-- The contract of a row's levels, of so many places at most. -/
def RowP (N : Nat) (ch cl : Nat → Nat) (f : Nat) : Prop := ∀ (xb gl : Nat) (fv cv clv : Value) (frm tz e : Nat) (W : World) (lv : Nat → Int), tz - frm ≤ f → frm ≤ tz → tz ≤ N → (∀ x, frm ≤ x → x < tz → cl x ≤ tz) → e + 2 * (tz - frm) ≤ 16777216 → Px W xb N gl fv cv clv ch cl → Rw W gl lv N →
  Calls Try.prog 35 #[.pointer (some ⟨xb, 0, none⟩), .int .i64 (frm : Int), .int .i64 (tz : Int), .int .i64 (e : Int)] W fun en w' => (∃ v, en = .returned v) ∧ Fr (fun k => k ≠ gl) W w' ∧ Rw w' gl (fun k => if frm ≤ k ∧ k < tz then (B.lev ch cl f frm tz e k : Int) else lv k) N

theorem stg_vals (c : Nat → Nat) (it : Nat → Nat) : ∀ f n, B.stgF c it f n = 0 ∨ B.stgF c it f n = 17 ∨ B.stgF c it f n = 15 ∨ B.stgF c it f n = 14 := by
  intro f
  induction f with
  | zero => intro n; exact .inl rfl
  | succ f ih =>
    intro n
    unfold B.stgF
    by_cases h : B.S3 (c (it n)) = true
    · rw [if_pos h]; simp [B.S3] at h; omega
    · rw [if_neg h]; exact ih (n + 1)
theorem stI_is (x : Nat) (h : x = 0 ∨ x = 17 ∨ x = 15 ∨ x = 14) : ((stI x) == 1) = decide (x = 15 ∨ x = 14) := by rcases h with h | h | h | h <;> subst h <;> rfl

set_option maxRecDepth 1000000 in
set_option maxHeartbeats 4000000 in
theorem iso_of_row (N : Nat) (ch cl : Nat → Nat) (hN : N ≤ 4194304) (hK : ClOk N ch cl) (f : Nat) (hP : RowP N ch cl f) (xb gl : Nat) (fv cv clv : Value) (i e : Nat) (W : World) (lv : Nat → Int) (hi : i < N) (hci : cl i ≠ 0) (hf : cl i - (i + 1) ≤ f) (he : e + 2 + 2 * (cl i - (i + 1)) ≤ 16777216) (hX : Px W xb N gl fv cv clv ch cl) (hL : Rw W gl lv N) :
    Calls Try.prog 61 #[.pointer (some ⟨xb, 0, none⟩), .int .i64 (i : Int), .int .i64 (e : Int)] W fun en w' => (∃ v, en = .returned v) ∧ Fr (fun k => k ≠ gl) W w' ∧ Rw w' gl (fun k => if i + 1 ≤ k ∧ k < cl i then (B.lev ch cl f (i + 1) (cl i) (B.inn ch cl e i) k : Int) else lv k) N := by
  obtain ⟨x0, x1, x2, x3⟩ := hX.cells
  have hup := hK.up i hci
  have hle := hK.le i hi
  have HP := Lib.hid (fun (E : Nat) (hE : E + 2 * (cl i - (i + 1)) ≤ 16777216) (W' : World) (h : Px W' xb N gl fv cv clv ch cl) (h2 : Rw W' gl lv N) => hP xb gl fv cv clv (i + 1) (cl i) E W' lv hf (by omega) hle (fun x h1 h2 => hK.nest i x (by omega) h2) hE h h2)
  have RO := Lib.hid (fun (W' : World) (h : Rd W' clv (clI cl) N) => row_any (i + 1) (cl i) N clv cl W' hN hle (by omega) hK.up hK.le h)
  have hcnt := B.cnt_le hK.up (i + 1) (cl i)
  have hspec := B.cnt_spec hK.up (i + 1) (cl i)
  have SA := Lib.hid (fun (W' : World) (rv : Value) (h : Rd W' rv (itI cl (i + 1)) (B.cnt cl (i + 1) (cl i))) (h2 : Rd W' cv (fun j => (ch j : Int)) N) => strong_any rv cv (B.itm cl (i + 1)) ch _ N W' (by omega) hN h h2 (fun j hj => by have := (hspec j).1 hj; omega))
  have hinn : B.inn ch cl e i = if (decide ((e + 1) % 2 = 1)) = B.odd ch cl i then e + 1 else e + 2 := rfl
  have hodd : B.odd ch cl i = if ch i = 11 then decide (B.stg ch cl (i + 1) (cl i) = 15 ∨ B.stg ch cl (i + 1) (cl i) = 14) else decide (ch i = 10) := rfl
  have hsv : B.stg ch cl (i + 1) (cl i) = 0 ∨ B.stg ch cl (i + 1) (cl i) = 17 ∨ B.stg ch cl (i + 1) (cl i) = 15 ∨ B.stg ch cl (i + 1) (cl i) = 14 := stg_vals _ _ _ _
  have hsI : ((stI (B.stg ch cl (i + 1) (cl i))) == 1) = decide (B.stg ch cl (i + 1) (cl i) = 15 ∨ B.stg ch cl (i + 1) (cl i) = 14) := stI_is _ hsv
  rw [show B.stgF ch (B.itm cl (i + 1)) (B.cnt cl (i + 1) (cl i)) 0 = B.stg ch cl (i + 1) (cl i) from rfl] at SA
  obtain ⟨cnt, hcn⟩ : ∃ c, B.cnt cl (i + 1) (cl i) = c := ⟨_, rfl⟩
  rw [hcn] at RO SA
  obtain ⟨CA, cc, rfl, hcc, hc1⟩ := hX.rc
  obtain ⟨LA, lc, rfl, hlc, hl1⟩ := hX.rcl
  obtain ⟨cg, co, rfl, hcg⟩ := hc1 (by omega)
  obtain ⟨lg, lo, rfl, hlg⟩ := hl1 (by omega)
  have c0 : W.cell? ⟨cg, co + i, none⟩ = some (.int .i64 (ch i : Int)) := hcg i hi
  have l0 := hlg i hi
  rw [show clI cl i = (cl i : Int) by unfold clI; rw [if_neg hci]] at l0
  obtain ⟨q, hq⟩ : ∃ q, cl i = q := ⟨_, rfl⟩
  obtain ⟨I, hI⟩ : ∃ I, B.inn ch cl e i = I := ⟨_, rfl⟩
  rw [hI] at hinn ⊢
  obtain ⟨b, hb⟩ : ∃ b, B.odd ch cl i = b := ⟨_, rfl⟩
  rw [hb] at hinn hodd
  obtain ⟨s, hs⟩ : ∃ s, B.stg ch cl (i + 1) (cl i) = s := ⟨_, rfl⟩
  rw [hs] at hodd hsI SA
  rw [hq] at l0 hup hle he HP RO hf ⊢
  obtain ⟨x, hx⟩ : ∃ x, ch i = x := ⟨_, rfl⟩
  rw [hx] at c0 hodd
  have HO := Lib.hid (And.intro hinn hodd)
  have HSI := Lib.hid hsI
  have HX := Lib.hid (And.intro hX hL)
  clear hinn hodd hsI hX hL hcg hlg hc1 hl1 hcn hq hI hb hs hx hP hK hspec hsv hci hcnt
  obtain ⟨par, hpar⟩ : ∃ b, decide ((e + 1) % 2 = 1) = b := ⟨_, rfl⟩
  have hp1 : ((((e : Int) + 1) % 2) == 1) = par := by
    rw [← hpar]
    by_cases h : (e + 1) % 2 = 1
    · rw [decide_eq_true h]; simp; omega
    · rw [decide_eq_false h]; simp; omega
  have HI : Hid (I = if par = b then e + 1 else e + 2) := Lib.hid (by rw [HO.out.1, hpar])
  have HPI : Hid (∀ (A E : Int), A = (i : Int) + 1 → E = (I : Int) → ∀ W', Px W' xb N gl fv (.slice (some ⟨cg, co, none⟩) N cc) (.slice (some ⟨lg, lo, none⟩) N lc) ch cl → Rw W' gl lv N → Calls Try.prog 35 #[.pointer (some ⟨xb, 0, none⟩), .int .i64 A, .int .i64 (q : Int), .int .i64 E] W' fun en w' => (∃ v, en = .returned v) ∧ Fr (fun k => k ≠ gl) W' w' ∧ Rw w' gl (fun k => if i + 1 ≤ k ∧ k < q then (B.lev ch cl f (i + 1) q I k : Int) else lv k) N) := Lib.hid (fun A E hA hE W' h1 h2 => by
    subst hA hE
    exact HP.out I (by have := HI.out; split at this <;> omega) W' h1 h2)
  clear hpar HP
  by_cases h11 : x = 11
  · subst h11
    have HB := Lib.hid (show (stI s == 1) = b by rw [HSI.out, HO.out.2, if_pos rfl])
    obtain ⟨S, hS⟩ : ∃ S, stI s = S := ⟨_, rfl⟩
    rw [hS] at SA
    have hSb : (S == 1) = b := by rw [← hS]; exact HB.out
    clear hS
    have KB : Hid (∀ W', Below W.heap.size W W' → W'.cell? ⟨xb, 2, none⟩ = some (.slice (some ⟨lg, lo, none⟩) N lc) ∧ W'.cell? ⟨xb, 1, none⟩ = some (.slice (some ⟨cg, co, none⟩) N cc) ∧ Rd W' (.slice (some ⟨cg, co, none⟩) N cc) (fun j => (ch j : Int)) N ∧ Px W' xb N gl fv (.slice (some ⟨cg, co, none⟩) N cc) (.slice (some ⟨lg, lo, none⟩) N lc) ch cl ∧ Rw W' gl lv N) := Lib.hid (fun W' h => by
      have hf : Fr (fun k => k ≠ gl) W W' := Fr.of_below h (fun k hk _ => hk)
      have hp := HX.out.1.fr hf
      exact ⟨hp.cells.2.2.1, hp.cells.2.1, hp.rc, hp, HX.out.2.fr (Fr.of_below (S := fun k => k < W.heap.size) h (fun k _ h => h)) HX.out.2.lt⟩)
    have HR1 : Hid (∀ (A : Int), A = (i : Int) + 1 → ∀ W', Below W.heap.size W W' → Calls Try.prog 43 #[.int .i64 A, .int .i64 (q : Int), .slice (some ⟨lg, lo, none⟩) N lc] W' fun e w' => ∃ v, e = .returned v ∧ Below W.heap.size W w' ∧ Rd w' v (itI cl (i + 1)) cnt) := Lib.hid (fun A hA W' hW => by
      subst hA
      refine (RO.out W' (KB.out W' hW).2.2.2.1.rcl).mono ?_
      rintro e w' ⟨v, h1, h2, h3⟩
      exact ⟨v, h1, hW.trans (h2.mono hW.size), row_rd h3⟩)
    have hbq : ∀ m, Below W.heap.size W (W.drewN m) := fun m => below_dn (Below.refl _ _) m
    have HBQ := Lib.hid hbq
    clear hbq
    cases par <;> cases b
    all_goals
      simp only [if_true, if_false, Bool.false_eq_true, reduceCtorEq] at HI
      go_enter Try.func61, Try.ntmps61
      go_wp2
      go_quiet (fail)
      go_wp2
      go_region_held3 (fun W' => W'.cell? ⟨xb, 2, none⟩ = some (.slice (some ⟨lg, lo, none⟩) N lc) ∧ W'.cell? ⟨xb, 1, none⟩ = some (.slice (some ⟨cg, co, none⟩) N cc) ∧ Below W.heap.size W W')
        (first | exact ⟨(KB.out _ (HBQ.out (nq + 1))).1, (KB.out _ (HBQ.out (nq + 1))).2.1, HBQ.out (nq + 1)⟩ | (refine ⟨(KB.out _ ?_).1, (KB.out _ ?_).2.1, ?_⟩ <;> first | assumption | exact (HBQ.out nq).drew))
        ((first
          | (go_at_call 43; (with_reducible refine (HR1.out _ (by omega) _ (HBQ.out _)).mono ?_); rintro e w2 ⟨v2, rfl, hb2, hr2⟩)
          | (go_at_call 42; (with_reducible refine (SA.out _ _ hr2 (KB.out _ hb2).2.2.1).mono ?_); rintro e w3 ⟨rfl, rfl⟩)
          | fail))
      go_wp2_with (go_at_call 35; (with_reducible refine (HPI.out _ _ (by omega) (by have := HI.out; omega) _ (KB.out _ hb2).2.2.2.1 (KB.out _ hb2).2.2.2.2).mono ?_); rintro en w4 ⟨⟨v, rfl⟩, hf4, hr4⟩)
      go_end0
      exact ⟨⟨_, rfl⟩, (Fr.of_below (S := fun k => k ≠ gl) hb2 (fun k hk _ => hk)).trans hf4, hr4⟩
  · have b11 : ((x : Int) == 11) = false := by simp; omega
    have b10 : ((x : Int) == 10) = b := by rw [HO.out.2, if_neg h11, Bool.eq_iff_iff]; simp; omega
    cases par <;> cases b
    all_goals
      simp only [if_true, if_false, Bool.false_eq_true, reduceCtorEq] at HI
      go_enter Try.func61, Try.ntmps61
      go_wp2
      go_quiet (fail)
      go_wp2_with (go_at_call 35; (with_reducible refine (HPI.out _ _ (by omega) (by have := HI.out; omega) _ (HX.out.1.drewN nq) (HX.out.2.fr ((Fr.refl (fun _ => True) _).drewN nq) trivial)).mono ?_); rintro en w2 ⟨⟨v, rfl⟩, hf2, hr2⟩)
      go_end0
      exact ⟨⟨_, rfl⟩, ((Fr.refl _ _).drewN nq).trans hf2, hr2⟩
end Go.Proofs.Ytclblidfamabdaa
