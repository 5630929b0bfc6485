/- utf.Place: a place in another unit. -/
import Derived.Test.YtokbmihjpllgpaaDoorPairs
import Derived.Test.YtokbmihjpllgpaaDoorQuiet
set_option linter.unusedVariables false
namespace Go.Proofs.YtokbmihjpllgpaaDoor
open Go.RowKit Go.Shelf Go.Lib Go.BigFrame
attribute [local go_sem] Oper.semAt_some

theorem block_setCell {W : World} {B : Nat} {t : TypeId} {cs : Array Value} {fr : Nat × Nat} (h : W.heap[B]? = some (.cells cs t fr)) (j : Nat) (v : Value) :
    (W.setCell ⟨B, j, none⟩ v).heap[B]? = some (.cells (cs.setIfInBounds j v) t fr) := by
  obtain ⟨hlt, h'⟩ := Array.getElem?_eq_some_iff.1 h
  show (W.heap.modify B _)[B]? = _
  rw [Array.getElem?_eq_getElem (by rw [Array.size_modify]; exact hlt), Array.getElem_modify_self, h']
  rfl
theorem cell_of_cells {W : World} {B : Nat} {t : TypeId} {cs : Array Value} (h : W.heap[B]? = some (.cells cs t (0, 0))) (j : Nat) (v : Value) (hj : cs[j]? = some v) : W.cell? ⟨B, j, none⟩ = some v ∧ W.frozen? ⟨B, j, none⟩ = false := by
  constructor
  · simp [World.cell?, h, hj]
  · simp [World.frozen?, h]

/-- The signs of so many, without their places. -/
def tk (x : U.Sg) : U.Tk := (x.rune, x.len)
theorem tk_put (a : Nat) (l : List U.Tk) : (U.put a l).map tk = l := by
  induction l generalizing a with
  | nil => rfl
  | cons t l ih => simp [U.put, tk, ih]
theorem tk_signs (l : List UInt8) : (U.signs l).map tk = U.toks l := tk_put 0 _
def us (u : Nat) (l : List U.Sg) : Nat := U.usum u (l.map tk)
theorem us_snoc (u : Nat) (l : List U.Sg) (x : U.Sg) : us u (l ++ [x]) = us u l + U.szu u (tk x) := by simp [us, U.usum]
theorem szu_le (u : Nat) (x : U.Tk) (h : x.2 ≤ 4) : U.szu u x ≤ 4 := by
  unfold U.szu
  split
  · exact h
  · split
    · have := (un_le x.1).2; omega
    · omega
theorem us_le (u : Nat) (l : List U.Sg) (h : ∀ x ∈ l, x.len ≤ 4) : us u l ≤ 4 * l.length := by
  induction l with
  | nil => simp [us, U.usum]
  | cons x l ih =>
    have h1 := ih (fun y hy => h y (List.mem_cons_of_mem _ hy))
    have h2 := szu_le u (tk x) (h x List.mem_cons_self)
    simp [us, U.usum] at h1 ⊢
    omega
theorem signs_len4 (l : List UInt8) : ∀ x ∈ U.signs l, x.len ≤ 4 := fun x hx => (U.toks_fact l _ (U.put_mem hx).1).2.1

/-- What Place answers. -/
def placeI (s : ByteArray) (at_ f t : Int) : Nat × Nat :=
  if (isUnit f && isUnit t) = false then (0, 5) else if at_ < 0 then (0, 1) else U.place f.toNat t.toNat at_.toNat (U.toks s.data.toList)

def nowCells (a b c : Nat) : Array Value := #[.int .i64 0, .int .i64 (a : Int), .int .i64 (b : Int), .int .i64 (c : Int)]
theorem nowCells_at (l : List U.Sg) (u : Nat) (hu : 1 ≤ u ∧ u ≤ 3) : (nowCells (us 1 l) (us 2 l) (us 3 l))[u]? = some (.int .i64 (us u l : Int)) := by
  have h : u = 1 ∨ u = 2 ∨ u = 3 := by omega
  rcases h with rfl | rfl | rfl <;> rfl

set_option maxRecDepth 1000000 in
set_option maxHeartbeats 2000000 in
theorem place_main (s : ByteArray) (at_ f t : Nat) (w : World) (hs : s.size ≤ 4194304) (hf : 1 ≤ f ∧ f ≤ 3) (ht : 1 ≤ t ∧ t ≤ 3) (hat : at_ ≤ 9223372036854775807) :
    Calls Tryd.prog 23 #[.string s, .int .i64 (at_ : Int), .int .i64 (f : Int), .int .i64 (t : Int)] w fun e w' =>
      e = .returned (.tuple #[.int .i64 ((U.place f t at_ (U.toks s.data.toList)).1 : Int), .int .i64 ((U.place f t at_ (U.toks s.data.toList)).2 : Int)]) ∧ Below w.heap.size w w' := by
  obtain ⟨p1, p2, hpl⟩ : ∃ p1 p2, U.place f t at_ (U.toks s.data.toList) = (p1, p2) := ⟨_, _, rfl⟩
  rw [hpl]
  have HP := Lib.hid hpl
  clear hpl
  have kf : isUnit (f : Int) = true := decide_eq_true (by omega)
  have kt : isUnit (t : Int) = true := decide_eq_true (by omega)
  have KF := Lib.hid kf
  have KT := Lib.hid kt
  clear kf kt
  refine (callsIn_wide (n := 0)).1 (callsIn_of_wp_marks Tryd.func23 rfl trivial (wpIn_wide.2 ?_) rfl)
  simp only [Tryd.ntmps23, List.size_toArray, List.length_cons, List.length_nil, Nat.reduceAdd, Nat.reduceSub, Array.replicate_succ, Array.replicate_zero, List.push_toArray, List.append_toArray, List.nil_append, List.cons_append]
  go_wp2_with (first | (go_at_call 32; refine (known_any _ _).mono ?_; rintro e w' ⟨rfl, rfl⟩; first | rw [KF.out] | rw [KT.out]) | (go_at_call 27; refine (signs_call _ _).mono ?_; rintro e w' ⟨rfl, rfl⟩))
  obtain ⟨W0, hW0⟩ : ∃ W0, (((w.alloc (.cells #[.int .i64 (at_ : Int)] 3)).alloc (.cells #[.int .i64 (f : Int)] 3)).alloc (.cells #[.int .i64 0, .int .i64 0, .int .i64 0, .int .i64 0] 64)).alloc (.cells #[.string s] 9) = W0 := ⟨_, rfl⟩
  rw [hW0]
  have hz1 : w.heap.size + 4 ≤ W0.heap.size := by rw [← hW0]; simp
  have hz2 : W0.heap.size ≤ w.heap.size + 4 := by rw [← hW0]; simp
  have h0 : W0.heap[w.heap.size]? = some (.cells #[.int .i64 (at_ : Int)] 3 (0, 0)) := by
    rw [← hW0]; exact (Below.heap_alloc _ _ _ (by simp <;> omega)).trans ((Below.heap_alloc _ _ _ (by simp <;> omega)).trans ((Below.heap_alloc _ _ _ (by simp <;> omega)).trans (World.alloc_heap_new w _)))
  have h1 : W0.heap[w.heap.size + 1]? = some (.cells #[.int .i64 (f : Int)] 3 (0, 0)) := by
    rw [← hW0]; refine (Below.heap_alloc _ _ _ (by simp <;> omega)).trans ((Below.heap_alloc _ _ _ (by simp)).trans ?_); have := World.alloc_heap_new (w.alloc (.cells #[.int .i64 (at_ : Int)] 3)) (.cells #[.int .i64 (f : Int)] 3); rwa [World.size_alloc] at this
  have h2 : W0.heap[w.heap.size + 2]? = some (.cells (nowCells 0 0 0) 64 (0, 0)) := by
    rw [← hW0]; refine (Below.heap_alloc _ _ _ (by simp)).trans ?_; have := World.alloc_heap_new ((w.alloc (.cells #[.int .i64 (at_ : Int)] 3)).alloc (.cells #[.int .i64 (f : Int)] 3)) (.cells #[.int .i64 0, .int .i64 0, .int .i64 0, .int .i64 0] 64); rw [World.size_alloc, World.size_alloc] at this; exact this
  have h3 : W0.cell? ⟨w.heap.size + 3, 0, none⟩ = some (.string s) := by
    rw [← hW0]; have := (cell_new (((w.alloc (.cells #[.int .i64 (at_ : Int)] 3)).alloc (.cells #[.int .i64 (f : Int)] 3)).alloc (.cells #[.int .i64 0, .int .i64 0, .int .i64 0, .int .i64 0] 64)) (.string s) 9).1; rwa [World.size_alloc, World.size_alloc, World.size_alloc] at this
  have hbel : Below w.heap.size w W0 := by rw [← hW0]; exact ((((Below.refl _ _).alloc (Nat.le_refl _) _).alloc (by simp) _).alloc (by simp <;> omega) _).alloc (by simp <;> omega) _
  clear hW0
  rename_i Kc hKc
  generalize hA : ({ tmps := _, defers := _ } : Act) = A0
  have hlen := signs_len_le s
  have hl4 := signs_len4 s.data.toList
  obtain ⟨L, hL⟩ : ∃ L, U.signs s.data.toList = L := ⟨_, rfl⟩
  have htk : U.toks s.data.toList = L.map tk := by rw [← hL, tk_signs]
  have SI := signs_in s hs (w.heap.size + 3) W0 h3
  rw [hL] at SI hlen hl4
  have hdr : us f L ≤ 4 * L.length ∧ us t L ≤ 4 * L.length := ⟨us_le _ _ hl4, us_le _ _ hl4⟩
  -- what holds behind the loop
  obtain ⟨E, hE⟩ : ∃ E : World → Prop, E = fun W => Below w.heap.size w W ∧ W.heap[w.heap.size]? = some (.cells #[.int .i64 (at_ : Int)] 3 (0, 0)) ∧ W.heap[w.heap.size + 1]? = some (.cells #[.int .i64 (f : Int)] 3 (0, 0)) ∧
      ∃ q : List U.Sg, W.heap[w.heap.size + 2]? = some (.cells (nowCells (us 1 q) (us 2 q) (us 3 q)) 64 (0, 0)) ∧ U.plc f t at_ 0 0 (L.map tk) = (us f q, us t q) := ⟨_, rfl⟩
  have fin : ∀ W, E W → W.heap[W0.heap.size]? = some (.deferred (some [])) → Kc { A0 with defers := { target := .collected W0.heap.size, args := #[] } :: A0.defers } W := by
    intro W hEW hD
    rw [hE] at hEW
    obtain ⟨hB, g0, g1, q, g2, hq⟩ := hEW
    have hpr := HP.out
    rw [htk] at hpr
    unfold U.place at hpr
    rw [hq] at hpr
    simp only at hpr
    subst hA
    apply hKc
    have c0 := (cell_of_block g0).1
    have c1 := (cell_of_block g1).1
    have cf := (cell_of_cells g2 f _ (nowCells_at q f hf)).1
    have ct := (cell_of_cells g2 t _ (nowCells_at q t ht)).1
    have endB : ∀ n, Below w.heap.size w ((W.drewN n).putObj W0.heap.size (.deferred none)) := fun n => (Fr.of_below (S := fun k => k < w.heap.size) (below_dn hB n) (fun k _ h => h)).putObj _ _ (fun _ h => by omega) |>.toBelow (fun k h => h) (Nat.le_refl _)
    have endB2 : ∀ n m, Below w.heap.size w (((W.drewN n).drewN m).putObj W0.heap.size (.deferred none)) := fun n m => by rw [World.drewN_drewN]; exact endB (n + m)
    clear SI HP hq g0 g1 g2 hE hKc hl4 htk hL
    go_wp2
    go_quiet (fail)
    by_cases e1 : us f q = at_
    · rw [if_pos e1] at hpr
      have hb1 : ((us f q : Int) == (at_ : Int)) = true := by rw [e1]; simp
      have HR := Lib.hid (Prod.mk.inj hpr)
      clear hpr e1
      go_wp2
      refine ⟨by simp, .inl ⟨_, _, rfl, run_takeDeferred (show (W.drewN _).heap[W0.heap.size]? = _ from hD), ?_⟩⟩
      exact ⟨_, results_tmp2 rfl _ _ _, by rw [← HR.out.1, ← HR.out.2]; rfl, endB _⟩
    · rw [if_neg e1] at hpr
      have hb1 : ((us f q : Int) == (at_ : Int)) = false := by simp; omega
      by_cases e2 : at_ < us f q
      · rw [if_pos e2] at hpr
        have HR := Lib.hid (Prod.mk.inj hpr)
        have hb2 : decide ((at_ : Int) < (us f q : Int)) = true := decide_eq_true (by omega)
        clear hpr e1
        go_wp2
        go_quiet (fail)
        go_wp2
        refine ⟨by simp, .inl ⟨_, _, rfl, run_takeDeferred (show ((W.drewN _).drewN _).heap[W0.heap.size]? = _ from hD), ?_⟩⟩
        exact ⟨_, results_tmp2 rfl _ _ _, by rw [← HR.out.1, ← HR.out.2]; rfl, endB2 _ _⟩
      · rw [if_neg e2] at hpr
        have HR := Lib.hid (Prod.mk.inj hpr)
        have hb2 : decide ((at_ : Int) < (us f q : Int)) = false := decide_eq_false (by omega)
        clear hpr e1
        go_wp2
        go_quiet (fail)
        go_wp2
        refine ⟨by simp, .inl ⟨_, _, rfl, run_takeDeferred (show ((W.drewN _).drewN _).heap[W0.heap.size]? = _ from hD), ?_⟩⟩
        exact ⟨_, results_tmp2 rfl _ _ _, by rw [← HR.out.1, ← HR.out.2]; rfl, endB2 _ _⟩
  refine wp_rf W0 (by rw [← hA]; rfl) enters_signs SI (Fr.refl _ _) (fun k h => by omega) (fun _ => rfl)
    (fun pre W => Below w.heap.size w W ∧ W.heap[w.heap.size]? = some (.cells #[.int .i64 (at_ : Int)] 3 (0, 0)) ∧ W.heap[w.heap.size + 1]? = some (.cells #[.int .i64 (f : Int)] 3 (0, 0)) ∧
      W.heap[w.heap.size + 2]? = some (.cells (nowCells (us 1 pre) (us 2 pre) (us 3 pre)) 64 (0, 0)) ∧ U.plc f t at_ 0 0 (L.map tk) = U.plc f t at_ (us f pre) (us t pre) ((L.drop pre.length).map tk))
    (fun c pre W => c = .exit 0 ∧ E W) ?hI ?hIx ?h0 ?round ?done ?stop
  case hI =>
    rintro pre A B hf ⟨hB, g0, g1, g2, hq⟩
    exact ⟨hB.trans (hf.toBelow (fun k hk => .inl (by omega)) hB.size), (hf.block _ (Array.getElem?_eq_some_iff.1 g0).1 (.inl (by omega))).trans g0, (hf.block _ (Array.getElem?_eq_some_iff.1 g1).1 (.inl (by omega))).trans g1, (hf.block _ (Array.getElem?_eq_some_iff.1 g2).1 (.inl (by omega))).trans g2, hq⟩
  case hIx =>
    rintro c pre A B hf ⟨hc, hEA⟩
    rw [hE] at hEA ⊢
    obtain ⟨hB, g0, g1, q, g2, hq⟩ := hEA
    exact ⟨hc, hB.trans (hf.toBelow (fun k hk => .inl (by omega)) hB.size), (hf.block _ (Array.getElem?_eq_some_iff.1 g0).1 (.inl (by omega))).trans g0, (hf.block _ (Array.getElem?_eq_some_iff.1 g1).1 (.inl (by omega))).trans g1, q, (hf.block _ (Array.getElem?_eq_some_iff.1 g2).1 (.inl (by omega))).trans g2, hq⟩
  case h0 => exact ⟨hbel, h0, h1, h2, rfl⟩
  case done =>
    rintro W ⟨hB, g0, g1, g2, hq⟩ hD
    have : E W := by rw [hE]; exact ⟨hB, g0, g1, L, g2, by rw [hq, List.drop_length]; rfl⟩
    simp only [Exit.inBlock, Exit.then]
    exact fin W this hD
  case stop =>
    rintro c pre W _ _ ⟨rfl, hEW⟩ hD
    apply wp_exit
    simp only [Exit.inBlock, Exit.then, if_true]
    exact fin W hEW hD
  case round =>
    rintro pre x post W hx hsz ⟨hB, g0, g1, g2, hq⟩
    have hxl : x.len ≤ 4 := hl4 x (by rw [hx]; simp)
    have hdp : (L.drop pre.length).map tk = tk x :: ((L.drop (pre ++ [x]).length).map tk) := by
      rw [hx]; simp [List.drop_append]
    rw [hdp] at hq
    have hlp : pre.length ≤ 4194304 := by have := congrArg List.length hx; simp at this; omega
    have b1 := us_le 1 pre (fun y hy => hl4 y (by rw [hx]; simp [hy]))
    have b2 := us_le 2 pre (fun y hy => hl4 y (by rw [hx]; simp [hy]))
    have b3 := us_le 3 pre (fun y hy => hl4 y (by rw [hx]; simp [hy]))
    have HX := Lib.hid hx
    have HQ := Lib.hid hq
    subst hA
    clear hx hq hdp fin SI hl4 hKc hL htk
    unfold encS
    gi_wp2
    refine ⟨(Fr.refl _ _).alloc _, fun W3 hf3 hs3 hr3 => ?_⟩
    have x3 := rx_new hf3 (by omega)
    have g0' := rx_old hf3 g0 (by omega)
    have g1' := rx_old hf3 g1 (by omega)
    have g2' := rx_old hf3 g2 (by omega)
    have hB3 := rx_below hf3 hB hB.size (by omega)
    have hW3 : W.heap.size < W3.heap.size := by rw [hs3]; simp
    have c0 := (cell_of_block g0').1
    have c1 := (cell_of_block g1').1
    have cf := (cell_of_cells g2' f _ (nowCells_at pre f hf)).1
    by_cases hstop : at_ ≤ us f pre
    · have hE3 : E W3 := by
        rw [hE]
        refine ⟨hB3, g0', g1', pre, g2', ?_⟩
        rw [HQ.out, U.plc, if_pos hstop]
      have hED : ∀ n, E (W3.drewN n) := fun n => by
        rw [hE] at hE3 ⊢
        obtain ⟨q1, q2, q3, q, q4, q5⟩ := hE3
        exact ⟨below_dn q1 n, q2, q3, q, q4, q5⟩
      have hd : decide ((at_ : Int) ≤ (us f pre : Int)) = true := decide_eq_true (by omega)
      clear hf3 hs3 hr3 hE hE3 HQ HX x3 g0 g1 g2 g0' g1' g2' hB
      gi_wp2
      (refine wpIn_region_quiet_lit (by kernel_rfl) (by kernel_rfl) (by kernel_rfl) ?_; (repeat (first | go_big_quiet_step (fail) | quiet_step (fail))); refine wpQuiet_nil ?_; rintro _ ⟨nq, rfl⟩)
      gi_wp2
      exact ⟨(Fr.refl _ _).drewN _, rfl, hED _⟩
    · have hd : decide ((at_ : Int) ≤ (us f pre : Int)) = false := decide_eq_false (by omega)
      have d1 := (cell_of_cells g2' 1 _ (nowCells_at pre 1 (by omega))).1
      have d2 := (cell_of_cells g2' 2 _ (nowCells_at pre 2 (by omega))).1
      have d3 := (cell_of_cells g2' 3 _ (nowCells_at pre 3 (by omega))).1
      have f1 := (cell_of_cells g2' 1 _ (nowCells_at pre 1 (by omega))).2
      have f2 := (cell_of_cells g2' 2 _ (nowCells_at pre 2 (by omega))).2
      have f3 := (cell_of_cells g2' 3 _ (nowCells_at pre 3 (by omega))).2
      have x1 : W3.cell? ⟨W.heap.size, 1, none⟩ = some (.int .i64 (x.len : Int)) := (cell_of_cells x3 1 _ rfl).1
      have x2 : W3.cell? ⟨W.heap.size, 2, none⟩ = some (.int .i32 (x.rune : Int)) := (cell_of_cells x3 2 _ rfl).1
      have hun := un_le x.rune
      have KX := Lib.hid (show ∀ (n : Nat) (v3 : Int), v3 = (us 3 pre : Int) + (U.un x.rune : Int) →
          Fr (fun k => k = w.heap.size + 3 ∨ W0.heap.size ≤ k ∧ k < W0.heap.size + 2 + 1) W3 ((((W3.drewN n).setCell ⟨w.heap.size + 1 + 1, 1, none⟩ (.int .i64 ((us 1 pre : Int) + (x.len : Int)))).setCell ⟨w.heap.size + 1 + 1, 2, none⟩ (.int .i64 ((us 2 pre : Int) + 1))).setCell ⟨w.heap.size + 1 + 1, 3, none⟩ (.int .i64 v3)).drew ∧
          (Below w.heap.size w ((((W3.drewN n).setCell ⟨w.heap.size + 1 + 1, 1, none⟩ (.int .i64 ((us 1 pre : Int) + (x.len : Int)))).setCell ⟨w.heap.size + 1 + 1, 2, none⟩ (.int .i64 ((us 2 pre : Int) + 1))).setCell ⟨w.heap.size + 1 + 1, 3, none⟩ (.int .i64 v3)).drew ∧
          ((((W3.drewN n).setCell ⟨w.heap.size + 1 + 1, 1, none⟩ (.int .i64 ((us 1 pre : Int) + (x.len : Int)))).setCell ⟨w.heap.size + 1 + 1, 2, none⟩ (.int .i64 ((us 2 pre : Int) + 1))).setCell ⟨w.heap.size + 1 + 1, 3, none⟩ (.int .i64 v3)).drew.heap[w.heap.size]? = some (.cells #[.int .i64 (at_ : Int)] 3 (0, 0)) ∧
          ((((W3.drewN n).setCell ⟨w.heap.size + 1 + 1, 1, none⟩ (.int .i64 ((us 1 pre : Int) + (x.len : Int)))).setCell ⟨w.heap.size + 1 + 1, 2, none⟩ (.int .i64 ((us 2 pre : Int) + 1))).setCell ⟨w.heap.size + 1 + 1, 3, none⟩ (.int .i64 v3)).drew.heap[w.heap.size + 1]? = some (.cells #[.int .i64 (f : Int)] 3 (0, 0)) ∧
          ((((W3.drewN n).setCell ⟨w.heap.size + 1 + 1, 1, none⟩ (.int .i64 ((us 1 pre : Int) + (x.len : Int)))).setCell ⟨w.heap.size + 1 + 1, 2, none⟩ (.int .i64 ((us 2 pre : Int) + 1))).setCell ⟨w.heap.size + 1 + 1, 3, none⟩ (.int .i64 v3)).drew.heap[w.heap.size + 2]? = some (.cells (nowCells (us 1 (pre ++ [x])) (us 2 (pre ++ [x])) (us 3 (pre ++ [x]))) 64 (0, 0)) ∧
          U.plc f t at_ 0 0 (L.map tk) = U.plc f t at_ (us f (pre ++ [x])) (us t (pre ++ [x])) ((L.drop (pre ++ [x]).length).map tk)) from by
        intro n v3 hv3
        refine ⟨((((Fr.refl _ _).drewN _).setCell _ _ (fun _ h => by simp at h; omega)).setCell _ _ (fun _ h => by simp at h; omega)).setCell _ _ (fun _ h => by simp at h; omega) |>.drew, ?_, ?_, ?_, ?_, ?_⟩
        · exact ((((below_dn hB3 n).setCell (p := ⟨w.heap.size + 1 + 1, 1, none⟩) (by simp <;> omega) _).setCell (p := ⟨w.heap.size + 1 + 1, 2, none⟩) (by simp <;> omega) _).setCell (p := ⟨w.heap.size + 1 + 1, 3, none⟩) (by simp <;> omega) _).drew
        · exact (Below.heap_setCell _ _ _ _ (by simp <;> omega)).trans ((Below.heap_setCell _ _ _ _ (by simp <;> omega)).trans ((Below.heap_setCell _ _ _ _ (by simp <;> omega)).trans g0'))
        · exact (Below.heap_setCell _ _ _ _ (by simp <;> omega)).trans ((Below.heap_setCell _ _ _ _ (by simp <;> omega)).trans ((Below.heap_setCell _ _ _ _ (by simp <;> omega)).trans g1'))
        · have := block_setCell (block_setCell (block_setCell (W := W3.drewN n) (B := w.heap.size + 1 + 1) g2' 1 (.int .i64 ((us 1 pre : Int) + (x.len : Int)))) 2 (.int .i64 ((us 2 pre : Int) + 1))) 3 (.int .i64 v3)
          refine this.trans ?_
          rw [us_snoc, us_snoc, us_snoc, hv3]
          rfl
        · rw [HQ.out, U.plc, if_neg hstop, us_snoc, us_snoc])
      clear hf3 hs3 hr3 hE HX HQ HP x3 g0 g1 g2 hB g0' g1' g2' hB3
      gi_wp2
      (refine wpIn_region_quiet_lit (by kernel_rfl) (by kernel_rfl) (by kernel_rfl) ?_; (repeat (first | go_big_quiet_step (fail) | quiet_step (fail))); refine wpQuiet_nil ?_; rintro _ ⟨nq, rfl⟩)
      have hmo : Tryd.prog.follows .mixedOrders = true := by kernel_rfl
      gi_wp2
      gi_region_with_o (refine ⟨trivial, rfl, ?_⟩; gi_at_call 33; refine (CallsIn.inRound _ (callsIn_wide.2 (pairs_any _ _))).mono ?_; rintro e w' ⟨rfl, rfl⟩)
      all_goals gi_wp2
      all_goals exact KX.out _ _ (by first | rfl | exact IntWalk.i64_in _ (by omega))
end Go.Proofs.YtokbmihjpllgpaaDoor
