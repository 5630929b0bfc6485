/- The law of orders: as the document's. -/
import Derived.Test.YtclblidfamabdaaG11
import Derived.Test.YtclblidfamabdaaG9
import Derived.Test.YtclblidfamabdaaG15
set_option linter.unusedVariables false
set_option linter.unusedSimpArgs false
namespace Go.Proofs.Ytclblidfamabdaa
open Go.RowKit Go.Shelf Go.Lib Go.BigFrame
attribute [local go_sem] Oper.semAt_some

set_option maxRecDepth 1000000 in
set_option maxHeartbeats 4000000 in
theorem bidiOrders_walk (v : Value) (n : Nat) (zs : Nat → Int) (w : World) (hn : n ≤ 2097152) (hR : Rd w v zs n) (hnil0 : ∀ c, v = .slice none 0 c → c = 0) :
    Calls Try.prog 6 #[v] w fun e w' => e = .returned (.bool true) ∧ Below w.heap.size w w' := by
  obtain ⟨i0, hi, hz0, hz1, hz2⟩ := info_parts Try.infoIn
  have hmk : ∀ W : World, (Instr.makeSlice 29 (.int .i64 0) (.int .i64 ((n : Int) + 3))).run Try.prog W = .ok (.slice (some ⟨W.heap.size, 0, none⟩) 0 (n + 3)) (W.alloc (.cells (madeCells (Value.int .i64 0).cells (n + 3)) 3)) := fun W => by
    have h := run_make (P := Try.prog) W 29 3 i0 _ Try.underlying29 hi hz0 .i64 .i64 (0 : Int) ((n : Int) + 3) (by omega) (by omega) (by rw [hz2]; omega) (by omega)
    rw [h, hz1, Nat.mul_one, show ((n : Int) + 3).toNat = n + 3 by omega]
    rfl
  have hrow0 : ∀ W : World, (W.alloc (.cells (madeCells (Value.int .i64 0).cells (n + 3)) 3)).ownsRow W.heap.size 3 1 (.slice (some ⟨W.heap.size, 0, none⟩) 0 (n + 3)) 0 [] := fun W => ⟨rfl, .inr ⟨W.heap.size, n + 3, _, rfl, Nat.le_refl _, World.alloc_heap_new W _, Nat.zero_le _, by simp only [maxLen]; omega, by simp [size_madeCells], by simp⟩⟩
  have HR0 := Lib.hid hrow0
  obtain ⟨MC, hMC⟩ : ∃ M, madeCells (Value.int .i64 0).cells (n + 3) = M := ⟨_, rfl⟩
  rw [hMC] at hmk HR0
  clear hMC hrow0
  have HRd := Lib.hid hR
  obtain ⟨A, ca, rfl, hca, hA⟩ := hR
  have HNIL := Lib.hid hnil0
  clear hnil0
  have HA := Lib.hid hA
  clear hA
  go_enter Try.func6, Try.ntmps6
  go_wp2
  go_loop [3] (fun iv => ∃ k : Nat, iv = .int .i64 (k : Int) ∧ k ≤ n ∧ ∀ j, j < k → 0 ≤ zs j ∧ zs j ≤ 255) (fun iv => n - (RowKit.intOf iv).toNat)
  case atStart => exact ⟨0, rfl, Nat.zero_le _, fun j h => absurd h (Nat.not_lt_zero _)⟩
  case round =>
    obtain ⟨k, rfl, hk, hall⟩ := hrel
    by_cases hlt : k < n
    · obtain ⟨g, o, rfl, hc⟩ := HA.out (by omega)
      have c0 := hc k hlt
      have HALL := Lib.hid hall
      obtain ⟨x, hx⟩ : ∃ x, zs k = x := ⟨_, rfl⟩
      rw [hx] at c0
      have HX := Lib.hid hx
      clear hc hall hx
      by_cases h0 : x < 0
      · go_wp2_with (go_at_call 16; (with_reducible refine (head_any _).mono ?_); rintro e w1 ⟨rfl, hb1⟩)
        go_ret
        exact ⟨rfl, hb1⟩
      · by_cases h1 : 255 < x
        · go_wp2_with (go_at_call 16; (with_reducible refine (head_any _).mono ?_); rintro e w1 ⟨rfl, hb1⟩)
          go_ret
          exact ⟨rfl, hb1⟩
        · go_wp2_with fail
          go_round
          case rel =>
            refine ⟨k + 1, by go_num, hlt, fun j hj => ?_⟩
            rcases Nat.lt_or_ge j k with h | h
            · exact HALL.out j h
            · obtain rfl : j = k := by omega
              rw [HX.out]; omega
          case measure => simp [RowKit.intOf]; omega
    · obtain rfl : n = k := by omega
      obtain ⟨lv, hlv⟩ : ∃ f : Nat → Nat, f = fun j => (zs j).toNat := ⟨_, rfl⟩
      have hzl : ∀ j, j < n → zs j = (lv j : Int) := fun j hj => by rw [hlv]; have := hall j hj; show zs j = (((zs j).toNat : Nat) : Int); omega
      have hle : ∀ j, j < n → lv j ≤ 67108864 := fun j hj => by have := hzl j hj; have := hall j hj; omega
      have hle2 : ∀ j, j < n → lv j ≤ 255 := fun j hj => by have := hzl j hj; have := hall j hj; omega
      have hRl : Rd w (.slice A n ca) (fun j => (lv j : Int)) n := HRd.out.congr hzl
      have OR := Lib.hid (order_any n lv _ w (by omega) hle hRl)
      have ORR := Lib.hid (fun W v h => orderR_any n lv v W (by omega) hle h)
      have ORU := Lib.hid (fun W v h => order_any n lv v W (by omega) hle h)
      have SM : Hid (∀ W a b f, Rd W a f n → Rd W b f n → Calls Try.prog 20 #[a, b] W fun e w' => e = .returned (.bool true) ∧ Below W.heap.size W w') := Lib.hid (fun W a b f h1 h2 => by
        refine (same_any a b n n f f W (by omega) (by omega) h1 h2).mono ?_
        rintro e w' ⟨⟨B, rfl, hB⟩, h3⟩
        obtain rfl : B = true := hB.2 ⟨rfl, fun _ _ => rfl⟩
        exact ⟨rfl, h3⟩)
      obtain ⟨od, hod⟩ : ∃ f, (fun j => (B.ord lv n j : Int)) = f := ⟨_, rfl⟩
      rw [hod] at ORR ORU
      obtain ⟨lf, hlf⟩ : ∃ f, (fun j => (lv j : Int)) = f := ⟨_, rfl⟩
      rw [hlf] at ORR ORU hRl
      -- the appends
      have AP1 : ∃ w', (Builtin.append_ #[29, 29] 29 #[.slice (some ⟨w.heap.size, 0, none⟩) 0 (n + 3), .slice A n ca]).run Try.prog (w.alloc (.cells MC 3)) = .ok (.slice (some ⟨w.heap.size, 0, none⟩) n (n + 3)) w' ∧ w'.ownsRow w.heap.size 3 1 (.slice (some ⟨w.heap.size, 0, none⟩) n (n + 3)) n (ns lf n) ∧ Below w.heap.size w w' := by
        have hal : Below w.heap.size w (w.alloc (.cells MC 3)) := (Below.refl _ _).alloc (Nat.le_refl _) _
        rcases Nat.eq_zero_or_pos n with h0 | h0
        · subst h0
          cases A with
          | none =>
            have hca0 : ca = 0 := HNIL.out ca rfl
            subst hca0
            refine ⟨_, run_append_owned_none (P := Try.prog) (w.alloc (.cells MC 3)) w.heap.size 29 29 3 i0 1 Try.underlying29 hi _ 0 [] (HR0.out w), HR0.out w, hal⟩
          | some a =>
            obtain ⟨w', hr, hrow, hg⟩ := run_append_fits (P := Try.prog) (w.alloc (.cells MC 3)) w.heap.size 29 29 3 i0 1 Try.underlying29 hi hz1 w.heap.size 0 (0 + 3) [] (HR0.out w) a 0 ca [] rfl (fun j u h => by simp at h) (fun u h => by simp at h) (by omega)
            exact ⟨w', hr, hrow, hal.grown hg (by simp) (fun q e => by have := Option.some.inj e; omega)⟩
        · obtain ⟨_, _, ea, _, hcc⟩ := hRl
          cases ea
          obtain ⟨g, o, rfl, hc⟩ := hcc h0
          obtain ⟨w', hr, hrow, hg⟩ := run_append_fits (P := Try.prog) (w.alloc (.cells MC 3)) w.heap.size 29 29 3 i0 1 Try.underlying29 hi hz1 w.heap.size 0 (n + 3) [] (HR0.out w) ⟨g, o, none⟩ n ca (ns lf n) (by rw [ns_length, Nat.mul_one]) (fun j u hu => by
            have hj : j < n := by have := (List.getElem?_eq_some_iff.1 hu).1; rwa [ns_length] at this
            rw [ns_at lf hj] at hu
            cases hu
            rw [Go.WideShapes.add_plain]
            exact (World.cell?_of_block (hal.block _ (World.block_lt_of_cell? _ _ (hc j hj)))).trans (hc j hj)) (fun u hu => by simp [ns] at hu; obtain ⟨_, _, rfl⟩ := hu; rfl) (by omega)
          rw [Nat.zero_add, List.nil_append] at hrow
          rw [Nat.zero_add] at hr
          exact ⟨w', hr, hrow, hal.grown hg (by simp) (fun q e => by have := Option.some.inj e; omega)⟩
      obtain ⟨wa, ap1, arow, abel⟩ := AP1
      have AP2 : ∃ w', (Builtin.append_ #[29, 29] 29 #[.slice (some ⟨w.heap.size, 0, none⟩) n (n + 3), .slice (some ⟨wa.heap.size, 0, none⟩) 1 1]).run Try.prog (wa.alloc (.cells #[.int .i64 (-77)] 3)) = .ok (.slice (some ⟨w.heap.size, 0, none⟩) (n + 1) (n + 3)) w' ∧ w'.ownsRow w.heap.size 3 1 (.slice (some ⟨w.heap.size, 0, none⟩) (n + 1) (n + 3)) (n + 1) (ns lf n ++ [.int .i64 (-77)]) ∧ Below w.heap.size w w' := by
        obtain ⟨w', hr, hrow, hg⟩ := run_append_fits (P := Try.prog) (wa.alloc (.cells #[.int .i64 (-77)] 3)) w.heap.size 29 29 3 i0 1 Try.underlying29 hi hz1 w.heap.size n (n + 3) (ns lf n) (arow.alloc _) ⟨wa.heap.size, 0, none⟩ 1 1 [.int .i64 (-77)] rfl (World.news_of_block (World.alloc_heap_new wa _)) (by simp [Value.oneCell']) (by omega)
        exact ⟨w', hr, hrow, (abel.alloc abel.size _).grown hg (by have := abel.size; simp; omega) (fun q e => by have := Option.some.inj e; omega)⟩
      obtain ⟨wb, ap2, brow, bbel⟩ := AP2
      have HA1 : Hid (∃ v' w', (Builtin.append_ #[29, 29] 29 #[.slice (some ⟨w.heap.size, 0, none⟩) 0 (n + 3), .slice A n ca]).run Try.prog (w.alloc (.cells MC 3)) = .ok v' w' ∧ (v' = .slice (some ⟨w.heap.size, 0, none⟩) n (n + 3) ∧ wa = w')) := Lib.hid ⟨_, _, ap1, rfl, rfl⟩
      have HA2 : Hid (∃ v' w', (Builtin.append_ #[29, 29] 29 #[.slice (some ⟨w.heap.size, 0, none⟩) n (n + 3), .slice (some ⟨wa.heap.size, 0, none⟩) 1 1]).run Try.prog (wa.alloc (.cells #[.int .i64 (-77)] 3)) = .ok v' w' ∧ (v' = .slice (some ⟨w.heap.size, 0, none⟩) (n + 1) (n + 3) ∧ wb = w')) := Lib.hid ⟨_, _, ap2, rfl, rfl⟩
      have hbm : Rd wb (.slice (some ⟨w.heap.size, 0, none⟩) n (n + 3)) lf n := by
        have e2 : ns lf n ++ [.int .i64 (-77)] = ns (fun j => if j < n then lf j else -77) (n + 1) := by
          rw [ns_succ, ns_congr (d := lf) (fun j hj => if_pos hj), if_neg (Nat.lt_irrefl _)]
        rw [e2] at brow
        have hRw : Rw wb w.heap.size (fun j => if j < n then lf j else -77) (n + 1) := row_rw brow
        exact ⟨_, _, rfl, by omega, fun _ => ⟨_, 0, rfl, fun j hj => by
          rw [Nat.zero_add]
          have h8 := (hRw.at (show j < n + 1 by omega)).1
          rwa [show (if j < n then lf j else -77) = lf j from if_pos hj] at h8⟩⟩
      have hb7 : wb.cell? ⟨w.heap.size, n, none⟩ = some (.int .i64 (-77)) := cells_at brow n _ (by rw [List.getElem?_append_right (by rw [ns_length]; exact Nat.le_refl _), ns_length]; simp)
      have hRb := hRl.below bbel
      have HB := Lib.hid (And.intro hbm (And.intro hb7 (And.intro hRb bbel)))
      clear ap1 arow abel ap2 brow bbel hbm hb7 hRb hlv hzl hle hRl hod hlf hall
      go_upto_region 7 with (at_builtin; go_must (first
        | (refine append_known4 (R := fun v' w' => v' = .slice (some ⟨w.heap.size, 0, none⟩) n (n + 3) ∧ wa = w') rfl _ _ 29 rfl (.slice (some ⟨w.heap.size, 0, none⟩) 0 (n + 3)) (.slice A n ca) (by rfl) (by rfl) HA1.out ?_; rintro v1 w1 ⟨rfl, rfl⟩)
        | (refine append_known4 (R := fun v' w' => v' = .slice (some ⟨w.heap.size, 0, none⟩) (n + 1) (n + 3) ∧ wb = w') rfl _ _ 29 rfl (.slice (some ⟨w.heap.size, 0, none⟩) n (n + 3)) (.slice (some ⟨wa.heap.size, 0, none⟩) 1 1) (by rfl) (by rfl) HA2.out ?_; rintro v2 w2 ⟨rfl, rfl⟩)))
      obtain ⟨hbm, hb7, hRb, bbel⟩ := HB.out
      have H7 := Lib.hid hb7
      clear hb7
      go_wp2_with (first
        | (go_at_call 23; (with_reducible refine (ORU.out wb _ hbm).mono ?_); rintro e w3 ⟨rfl, hb3, hr3⟩)
        | (go_at_call 24; (with_reducible refine (ORR.out w3 _ (hRb.below hb3)).mono ?_); rintro e w4 ⟨v4, rfl, hb4, hr4⟩)
        | (go_at_call 20; (with_reducible refine (SM.out w4 _ _ od ((hr3.rd n (Nat.le_refl _)).below hb4) hr4).mono ?_); rintro e w5 ⟨rfl, hb5⟩)
        | (go_at_call 20; (with_reducible refine (SM.out w5 _ _ lf (hbm.below (bst (bst hb3 hb4) hb5)) (hRb.below (bst (bst hb3 hb4) hb5))).mono ?_); rintro e w6 ⟨rfl, hb6⟩; have c7 : w6.cell? ⟨w.heap.size, n, none⟩ = some (.int .i64 (-77)) := ((World.cell?_of_block ((bst (bst (bst hb3 hb4) hb5) hb6).block _ (World.block_lt_of_cell? _ _ H7.out))).trans H7.out))
        | (go_at_call 16; (with_reducible refine (head_any _).mono ?_); rintro e w7 ⟨rfl, hb7⟩)
        | fail)
      go_ret
      exact ⟨rfl, bst (bst (bst (bst (bst bbel hb3) hb4) hb5) hb6) hb7⟩
theorem bidiOrders_law (v : Value) (l : List Int) (w : World) (hl : l.length ≤ 1048576) (hr : ∀ x ∈ l, -9223372036854775808 ≤ x ∧ x ≤ 9223372036854775807) (hv : ArgI w v l) :
    Calls Try.prog 6 #[v] w fun e w' => e = .returned (.bool true) ∧ Below w.heap.size w w' :=
  bidiOrders_walk v l.length _ w (by omega) hv.rd (fun c h => by
    rcases hv with ⟨h1, _⟩ | ⟨a, cap, h1, _⟩
    · rw [h1] at h; injection h with _ _ h3; exact h3.symm
    · rw [h1] at h; injection h with h2; cases h2)
end Go.Proofs.Ytclblidfamabdaa
