/- The law of what is told being the caller's own. -/
import Derived.Test.YtclblidfamabdaaBdHe
set_option linter.unusedVariables false
set_option linter.unusedSimpArgs false
namespace Go.Proofs.Ytclblidfamabdaa
open Go.RowKit Go.Shelf Go.Lib Go.BigFrame
attribute [local go_sem] Oper.semAt_some

section
variable {P : Program} {w : World}
/-- An append whose run is known, in a plain region. -/
theorem append_known {ops : Array Oper} {rest : List Oper} {o : Oper} {a : Act} {Q : Exit → Act → World → Prop} {R : Value → World → Prop} (hgd : o.guard = none) (s x : Operand) (t : TypeId)
    (ho : o.op = .call { callee := .builtin .append, args := #[s, x], argTypes := #[t, t] }) (v xv : Value) (hs : a.eval s = v) (hx : a.eval x = xv)
    (hr : ∃ v' w', (Builtin.append_ #[t, t] o.type #[v, xv]).run P w = .ok v' w' ∧ R v' w') (h : ∀ v' w', R v' w' → wpList P ops Q rest (a.put o.dst v') w') : wpList P ops Q (o :: rest) a w := by
  refine wpList_plain hgd fun K hK' => ?_
  obtain ⟨v', w', hrun, r1⟩ := hr
  unfold Oper.wp
  simp [execOp, ho, resolve, invoke, builtin, hs, hx, hrun, Result.andThen]
  exact hK' _ _ (h _ _ r1)
end
theorem ns_cells {W : World} {g n : Nat} {f : Nat → Int} (h : ∀ j, j < n → W.cell? ⟨g, j, none⟩ = some (.int .i64 (f j))) : ∀ (j : Nat) (u : Value), (ns f n)[j]? = some u → W.cell? ((⟨g, 0, none⟩ : Addr).add j) = some u := fun j u hu => by
  have hj : j < n := by have := (List.getElem?_eq_some_iff.1 hu).1; rwa [ns_length] at this
  rw [ns_at f hj] at hu
  cases hu
  rw [Go.WideShapes.add_plain, Nat.zero_add]
  exact h j hj
/-- Two numbers put behind a full row. -/
theorem app_full (W : World) (g n : Nat) (f : Nat → Int) (gx : Nat) (hn : n ≤ 4194304) (hR : Rw W g f n) (hx : W.cell? ⟨gx, 0, none⟩ = some (.int .i64 7) ∧ W.cell? ⟨gx, 1, none⟩ = some (.int .i64 7)) :
    ∃ v' w', (Builtin.append_ #[29, 29] 29 #[.slice (some ⟨g, 0, none⟩) n n, .slice (some ⟨gx, 0, none⟩) 2 2]).run Try.prog W = .ok v' w' ∧ (∃ A c, v' = .slice A (n + 2) c) ∧ Below W.heap.size W w' := by
  obtain ⟨i0, hi, hz0, hz1, hz2⟩ := info_parts Try.infoIn
  obtain ⟨v', w', hr, hrow, hg⟩ := run_append_arg_grows (P := Try.prog) W 29 29 3 i0 (.int .i64 0) 1 8 Try.underlying29 hi hz0 hz1 hz2 rfl (by omega) ⟨g, 0, none⟩ n n (ns f n) (by rw [ns_length, Nat.mul_one]) (ns_cells (fun j hj => (hR.at hj).1)) ⟨gx, 0, none⟩ 2 2 [.int .i64 7, .int .i64 7] rfl (fun j u hu => by
    rw [Go.WideShapes.add_plain, Nat.zero_add]
    match j, hu with
    | 0, hu => simp at hu; subst hu; exact hx.1
    | 1, hu => simp at hu; subst hu; exact hx.2) (by omega) (by simp only [maxLen]; omega) (by omega)
  obtain ⟨A, c, rfl, _⟩ := ownN_form hrow
  exact ⟨_, _, hr, ⟨A, c, rfl⟩, ⟨hg.os, hg.tape, hg.output, hg.size, fun k hk => hg.block k hk (by simp)⟩⟩

/-- Two numbers put behind a row of one's own. -/
theorem app_own7 (W : World) (base : Nat) (v : Value) (n : Nat) (f : Nat → Int) (gx : Nat) (hn : n ≤ 4194304) (h : W.ownsRow base 3 1 v n (ns f n)) (hb : base ≤ W.heap.size) (hx : W.cell? ⟨gx, 0, none⟩ = some (.int .i64 7) ∧ W.cell? ⟨gx, 1, none⟩ = some (.int .i64 7)) :
    ∃ v' w', (Builtin.append_ #[29, 29] 29 #[v, .slice (some ⟨gx, 0, none⟩) 2 2]).run Try.prog W = .ok v' w' ∧ ((∃ A c, v' = .slice A (n + 2) c) ∧ W.grownBy w' v.ownBlock ∧ ∀ q, v.ownBlock = some q → ∃ f', Rw w' q f' n) := by
  obtain ⟨i0, hi, hz0, hz1, hz2⟩ := info_parts Try.infoIn
  have hnews : ∀ (j : Nat) (u : Value), ([.int .i64 7, .int .i64 7] : List Value)[j]? = some u → W.cell? ((⟨gx, 0, none⟩ : Addr).add j) = some u := fun j u hu => by
    rw [Go.WideShapes.add_plain, Nat.zero_add]
    match j, hu with
    | 0, hu => simp at hu; subst hu; exact hx.1
    | 1, hu => simp at hu; subst hu; exact hx.2
  obtain ⟨A, ca, rfl, hca, hA⟩ := ownN_form h
  have h2 := h
  rcases h2.2 with ⟨h1, h0⟩ | ⟨g, cap, cur, h1, _, h3, _⟩
  · cases h1
    obtain ⟨v', w', hr, hrow, hg, _⟩ := run_append_own (P := Try.prog) W base 29 29 3 i0 (.int .i64 0) 1 8 Try.underlying29 hi hz0 hz1 hz2 rfl (by omega) (.slice none 0 0) 0 (ns f 0) h ⟨gx, 0, none⟩ 2 2 _ rfl hnews (by simp [Value.oneCell']) (by unfold maxLen; omega) (by omega) hb
    obtain ⟨A, c, rfl, _⟩ := ownN_form hrow
    exact ⟨_, _, hr, ⟨A, c, by rw [Nat.zero_add]⟩, hg, fun q e => by simp [Value.ownBlock] at e⟩
  · cases h1
    by_cases hroom : n + 2 ≤ ca
    · obtain ⟨w', hr, hrow, hg⟩ := run_append_fits (P := Try.prog) W base 29 29 3 i0 1 Try.underlying29 hi hz1 g n ca (ns f n) h ⟨gx, 0, none⟩ 2 2 _ rfl hnews (by simp [Value.oneCell']) hroom
      refine ⟨_, _, hr, ⟨_, _, rfl⟩, hg, fun q e => ?_⟩
      obtain rfl : g = q := Option.some.inj e
      have e2 : ns f n ++ [.int .i64 7, .int .i64 7] = ns (fun j => if j < n then f j else 7) (n + 2) := by
        have e0 : ns (fun j => if j < n then f j else 7) n = ns f n := ns_congr (fun j hj => if_pos hj)
        rw [show n + 2 = n + 1 + 1 by omega, ns_succ, ns_succ, e0]
        simp
        intro h; omega
      rw [e2] at hrow
      obtain ⟨cur, q1, q2, q3⟩ := row_rw hrow
      exact ⟨_, cur, q1, by omega, fun j hj => q3 j (by omega)⟩
    · have hR := row_rw h
      obtain ⟨v', w', hr, hrow, hg⟩ := run_append_arg_grows (P := Try.prog) W 29 29 3 i0 (.int .i64 0) 1 8 Try.underlying29 hi hz0 hz1 hz2 rfl (by omega) ⟨g, 0, none⟩ n ca (ns f n) (by rw [ns_length, Nat.mul_one]) (ns_cells (fun j hj => (hR.at hj).1)) ⟨gx, 0, none⟩ 2 2 _ rfl hnews (by omega) (by simp only [maxLen]; omega) (by omega)
      obtain ⟨A, c, rfl, _⟩ := ownN_form hrow
      refine ⟨_, _, hr, ⟨A, c, rfl⟩, ⟨hg.os, hg.tape, hg.output, hg.size, fun k hk _ => hg.block k hk (by simp)⟩, fun q e => ?_⟩
      obtain rfl : g = q := Option.some.inj e
      exact ⟨f, hR.grown hg (by simp)⟩
theorem lit7 (W : World) : (W.alloc (.cells #[.int .i64 7, .int .i64 7] 3)).cell? ⟨W.heap.size, 0, none⟩ = some (.int .i64 7) ∧ (W.alloc (.cells #[.int .i64 7, .int .i64 7] 3)).cell? ⟨W.heap.size, 1, none⟩ = some (.int .i64 7) := by
  have hh := World.alloc_heap_new W (.cells #[.int .i64 7, .int .i64 7] 3)
  constructor <;> (simp only [World.cell?, hh]; rfl)

set_option maxRecDepth 1000000 in
set_option maxHeartbeats 4000000 in
theorem bidiOwn_law (s : ByteArray) (base : Int) (hs : s.size ≤ 1048576) (hb0 : (Lit.int .i64 base).wf = true) (w : World) :
    Calls Try.prog 10 #[.string s, .int .i64 base] w fun e w' => e = .returned (.bool true) ∧ Below w.heap.size w w' := by
  obtain ⟨n, hn⟩ : ∃ n, (C.clus (U.toks s.data.toList)).length = n := ⟨_, rfl⟩
  have hlen : (C.clus (U.toks s.data.toList)).length ≤ s.size := Nat.le_trans (C.clus_length_le _) toks_len
  rw [hn] at hlen
  obtain ⟨c, hc⟩ : ∃ c, B.kcl (U.toks s.data.toList) = c := ⟨_, rfl⟩
  have WI : Hid (Calls Try.prog 17 #[.int .i64 base, .int .i64 2] w fun e w' => e = .returned (.int .i64 (base % 2)) ∧ w = w') := Lib.hid (within4_any base 2 w (by omega) (by omega))
  obtain ⟨b, hbb⟩ : ∃ b : Nat, base % 2 = (b : Int) := ⟨(base % 2).toNat, by omega⟩
  rw [hbb] at WI
  have hb2 : b = 0 ∨ b = 1 := by omega
  obtain ⟨LV, hLV⟩ : ∃ f, B.lvAll b c n = f := ⟨_, rfl⟩
  have hlve : ∀ k, k < n → LV k ≤ 67108864 := fun k hk => by have := B.lvAll_le b c n k hk; rw [hLV] at this; omega
  have LE : Hid (∀ w, Calls Try.prog 18 #[.string s, .int .i64 (b : Int)] w fun e w' => ∃ v, e = .returned (.tuple #[v, .int .i64 0]) ∧ Below w.heap.size w w' ∧ w'.ownsRow w.heap.size 3 1 v n (ns (fun j => (LV j : Int)) n)) := Lib.hid (fun w => by
    have := levels_any s b hb2 w (by omega) n hn c hc
    rw [show lvI b n c = fun j => (LV j : Int) by rw [← hLV]; rfl] at this
    exact this)
  have OR : Hid (∀ W v, Rd W v (fun j => (LV j : Int)) n → Calls Try.prog 23 #[v] W fun e w' => e = .returned (.slice (some ⟨W.heap.size, 0, none⟩) n n) ∧ Below W.heap.size W w' ∧ Rw w' W.heap.size (fun j => (B.ord LV n j : Int)) n) := Lib.hid (fun W v h => order_any n LV v W (by omega) hlve h)
  have SM : Hid (∀ W a b f, Rd W a f n → Rd W b f n → Calls Try.prog 20 #[a, b] W fun e w' => e = .returned (.bool true) ∧ Below W.heap.size W w') := Lib.hid (fun W a b f h1 h2 => by
    refine (same_any a b n n f f W (by omega) (by omega) h1 h2).mono ?_
    rintro e w' ⟨⟨B, rfl, hB⟩, h3⟩
    obtain rfl : B = true := hB.2 ⟨rfl, fun _ _ => rfl⟩
    exact ⟨rfl, h3⟩)
  obtain ⟨OD, hOD⟩ : ∃ f, (fun j => (B.ord LV n j : Int)) = f := ⟨_, rfl⟩
  rw [hOD] at OR
  obtain ⟨LF, hLF⟩ : ∃ f, (fun j => (LV j : Int)) = f := ⟨_, rfl⟩
  rw [hLF] at LE OR
  obtain ⟨i0, hi, hz0, hz1, hz2⟩ := info_parts Try.infoIn
  clear hn hc hbb hLV hlve hOD hLF
  go_enter Try.func10, Try.ntmps10
  go_upto_region 6 with (first
    | (go_at_call 17; (with_reducible refine WI.out.mono ?_); rintro e w0 ⟨rfl, rfl⟩)
    | (go_at_call 18; (with_reducible refine (LE.out w).mono ?_); rintro e w1 ⟨va, rfl, hb1, hr1⟩)
    | (go_at_call 18; (with_reducible refine (LE.out w1).mono ?_); rintro e w2 ⟨vb, rfl, hb2', hr2⟩)
    | (go_at_call 23; (with_reducible refine (OR.out w2 _ ((row_rd hr1).below hb2')).mono ?_); rintro e w3 ⟨rfl, hb3, hr3⟩)
    | (go_at_call 23; (with_reducible refine (OR.out w3 _ ((row_rd hr1).below (bst hb2' hb3))).mono ?_); rintro e w4 ⟨rfl, hb4, hr4⟩)
    | fail)
  obtain ⟨A, ca, rfl, hca, hA⟩ := ownN_form hr1
  obtain ⟨VB, cb, rfl, hcb, _⟩ := ownN_form hr2
  obtain ⟨qa, hqa, hqa2, hqa3, hqa4, hqa5⟩ : ∃ qa, (0 < n → A = some ⟨qa, 0, none⟩) ∧ w.heap.size ≤ qa ∧ w2.heap.size ≠ qa ∧ w3.heap.size ≠ qa ∧ ∀ q, w1.heap.size ≤ q → q < w2.heap.size → q ≠ qa := by
    have := hb1.size
    have := hb2'.size
    have := hr3.lt
    have := hr4.lt
    rcases Nat.eq_zero_or_pos n with h | h
    · exact ⟨w4.heap.size, fun h' => absurd h' (by omega), by omega, by omega, by omega, fun q h1 h2 => by omega⟩
    · obtain ⟨g, rfl⟩ := hA h
      have := hr1.lt g rfl
      exact ⟨g, fun _ => rfl, this.1, by omega, by omega, fun q h1 h2 => by omega⟩
  have HQ5 := Lib.hid hqa5
  clear hqa5
  have hvb := hr2.lt
  have s1 := hb1.size
  have s2 := hb2'.size
  have s3 := hb3.size
  have s4 := hb4.size
  have g3 := hr3.lt
  have g4 := hr4.lt
  have hra := own_below hr1 (bst (bst hb2' hb3) hb4)
  have hrb := own_below hr2 (bst hb3 hb4)
  have hrc : Rw w4 w2.heap.size OD n := hr3.fr (Fr.of_below (S := fun k => k < w3.heap.size) hb4 (fun k _ h => h)) g3
  have hbe : Below w.heap.size w w4 := bst (bst (bst hb1 hb2') hb3) hb4
  have hab : ∀ q, (Value.slice A n ca).ownBlock = some q → w.heap.size ≤ q ∧ q < w1.heap.size := fun q e => hr1.lt q e
  have AP := Lib.hid (app_own7 (w4.alloc (.cells #[.int .i64 7, .int .i64 7] 3)) w.heap.size _ n LF w4.heap.size (by omega) (hra.alloc _) (by simp; omega) (lit7 w4))
  have H4 := Lib.hid (And.intro hrb (And.intro hrc (And.intro hr4 (And.intro hbe (And.intro hab (And.intro hvb (row_rw (w := w4) (base := w.heap.size) (g := qa) (n := n) (cap := ca) (c := LF))))))))
  clear hra hrb hrc hbe hab hvb hr1 hr2 hr3 hr4 hb1 hb2' hb3 hb4 hA
  go_upto_region 7 with (at_builtin; go_must (refine append_known (R := fun v' w' => (∃ A c, v' = .slice A (n + 2) c) ∧ (w4.alloc (.cells #[.int .i64 7, .int .i64 7] 3)).grownBy w' (Value.slice A n ca).ownBlock ∧ ∀ q, (Value.slice A n ca).ownBlock = some q → ∃ f', Rw w' q f' n) rfl _ _ 29 rfl _ _ rfl rfl AP.out ?_); rintro v5 w5 ⟨⟨A5, c5, rfl⟩, hg5, hq5⟩)
  obtain ⟨hrb, hrc, hrd, hbe, hab, hvb, hraw⟩ := H4.out
  have hal : Below w.heap.size w (w4.alloc (.cells #[.int .i64 7, .int .i64 7] 3)) := hbe.alloc hbe.size _
  have hb5 : Below w.heap.size w w5 := hal.grown hg5 hal.size (fun q e => (hab q e).1)
  have hz5 := hg5.size
  simp only [World.size_alloc] at hz5
  have hrb5 : w5.ownsRow w1.heap.size 3 1 (.slice VB n cb) n (ns LF n) := (hrb.alloc _).kept hg5 (by
    cases hq : (Value.slice VB n cb).ownBlock with
    | none => exact .inl rfl
    | some q => exact .inr (fun e => by have := (hvb q hq).1; have := (hab q e.symm).2; omega))
  have hrc5 : Rw w5 w2.heap.size OD n := (hrc.alloc _).grown hg5 (fun e => by have := (hab _ e).2; omega)
  have hrd5 : Rw w5 w3.heap.size OD n := (hrd.alloc _).grown hg5 (fun e => by have := (hab _ e).2; omega)
  have hqa5 : 0 < n → ∃ f, Rw w5 qa f n := fun h => by rw [hqa h] at hq5; exact hq5 qa rfl
  have AP2 := Lib.hid (app_full (w5.alloc (.cells #[.int .i64 7, .int .i64 7] 3)) w2.heap.size n OD w5.heap.size (by omega) (hrc5.alloc _) (lit7 w5))
  have H5 := Lib.hid (And.intro hb5 (And.intro hrb5 (And.intro hrc5 (And.intro hrd5 hqa5))))
  clear hrb hrc hrd hbe hab hraw hal hb5 hrb5 hrc5 hrd5 hqa5 hg5 hq5 hvb
  go_upto_region 8 with (at_builtin; go_must (refine append_known (R := fun v' w' => (∃ A c, v' = .slice A (n + 2) c) ∧ Below (w5.alloc (.cells #[.int .i64 7, .int .i64 7] 3)).heap.size (w5.alloc (.cells #[.int .i64 7, .int .i64 7] 3)) w') rfl _ _ 29 rfl _ _ rfl rfl (by obtain ⟨v', w', h1, h2, h3⟩ := AP2.out; exact ⟨v', w', h1, h2, h3⟩) ?_); rintro v6 w6 ⟨⟨A6, c6, rfl⟩, hb6⟩)
  have hb56 : Below w5.heap.size w5 w6 := bst ((Below.refl _ _).alloc (Nat.le_refl _) _) hb6
  obtain ⟨hb5, hrb5, hrc5, hrd5, hqa5⟩ := H5.out
  have hz6 := hb56.size
  have hqa6 : 0 < n → ∃ f, Rw w6 qa f n := fun h => by obtain ⟨f, hf⟩ := hqa5 h; exact ⟨f, hf.fr (Fr.of_below (S := fun k => k < w5.heap.size) hb56 (fun k _ h => h)) hf.lt⟩
  have H6 := Lib.hid (And.intro (bst hb5 hb56) (And.intro (own_below hrb5 hb56) (And.intro (hrc5.fr (Fr.of_below (S := fun k => k < w5.heap.size) hb56 (fun k _ h => h)) hrc5.lt) (And.intro (hrd5.fr (Fr.of_below (S := fun k => k < w5.heap.size) hb56 (fun k _ h => h)) hrd5.lt) hqa6))))
  clear hb5 hrb5 hrc5 hrd5 hqa5 hqa6 hb56 hb6 AP AP2
  go_wp2
  go_loopw [13] (fun iv wx => ∃ k : Nat, iv = .int .i64 (k : Int) ∧ k ≤ n ∧ Fr (fun j => j ≠ qa) w6 wx ∧ (0 < n → ∃ f, Rw wx qa f n)) (fun iv _ => n - (RowKit.intOf iv).toNat)
  case atStart => exact ⟨0, rfl, Nat.zero_le _, Fr.refl _ _, H6.out.2.2.2.2⟩
  case round =>
    obtain ⟨k, rfl, hk, hF, hRf⟩ := hrel
    by_cases hlt : k < n
    · obtain ⟨f, hRw⟩ := hRf (by omega)
      have hAq := hqa (by omega)
      subst hAq
      have f0 := (hRw.at hlt).2
      obtain ⟨u0, c0⟩ : ∃ u, wr.cell? ⟨qa, k, none⟩ = some u := ⟨_, (hRw.at hlt).1⟩
      have HX := Lib.hid (And.intro hF hRw)
      clear hF hRf hRw
      go_wp2
      go_roundw
      case rel => exact ⟨k + 1, by go_num, hlt, HX.out.1.setCell _ _ (fun _ h => h rfl), fun _ => ⟨_, HX.out.2.set k (-9)⟩⟩
      case measure => simp [RowKit.intOf]; omega
    · obtain rfl : n = k := by omega
      obtain ⟨wo, hwo⟩ : ∃ x, x = wr := ⟨_, rfl⟩
      subst hwo
      have hrc6 : Rw wo w2.heap.size OD n := H6.out.2.2.1.fr hF hqa3
      have HF := Lib.hid (And.intro hF hrc6)
      clear hF hRf hrc6
      go_wp2
      go_loopw [14] (fun iv wx => ∃ k : Nat, iv = .int .i64 (k : Int) ∧ k ≤ n ∧ Fr (fun j => j ≠ w2.heap.size) wo wx ∧ ∃ f, Rw wx w2.heap.size f n) (fun iv _ => n - (RowKit.intOf iv).toNat)
      case atStart => exact ⟨0, rfl, Nat.zero_le _, Fr.refl _ _, _, HF.out.2⟩
      case round =>
        obtain ⟨k, rfl, hk, hG, f, hRw⟩ := hrel
        by_cases hlt : k < n
        · have f0 := (hRw.at hlt).2
          obtain ⟨u0, c0⟩ : ∃ u, wr.cell? ⟨w2.heap.size, k, none⟩ = some u := ⟨_, (hRw.at hlt).1⟩
          have HX := Lib.hid (And.intro hG hRw)
          clear hG hRw
          go_wp2
          go_roundw
          case rel => exact ⟨k + 1, by go_num, hlt, HX.out.1.setCell _ _ (fun _ h => h rfl), _, HX.out.2.set k (-9)⟩
          case measure => simp [RowKit.intOf]; omega
        · obtain rfl : n = k := by omega
          have hb8 : Below w.heap.size w wr := (H6.out.1.trans (HF.out.1.toBelow (fun k hk => by show k ≠ qa; omega) (by have := H6.out.1.size; exact this))).trans (hG.toBelow (fun k hk => by show k ≠ w2.heap.size; omega) (by have := H6.out.1.size; have := HF.out.1.size; omega))
          have hvb := H4.out.2.2.2.2.2.1
          have hrb8 : Rd wr (.slice VB n cb) LF n := (((row_rd H6.out.2.1).fr HF.out.1 (fun q e _ => HQ5.out q (hvb q e).1 (hvb q e).2))).fr hG (fun q e _ => by have := (hvb q e).2; show q ≠ w2.heap.size; omega)
          have hrd8 : Rd wr (.slice (some ⟨w3.heap.size, 0, none⟩) n n) OD n := ((H6.out.2.2.2.1.fr HF.out.1 hqa4).fr hG (by show w3.heap.size ≠ w2.heap.size; omega)).rd n (Nat.le_refl _)
          have H8 := Lib.hid (And.intro hb8 (And.intro hrb8 hrd8))
          obtain ⟨wq, hwq⟩ : ∃ x, x = wr := ⟨_, rfl⟩
          subst hwq
          clear hb8 hrb8 hrd8 hG hRw hvb
          go_wp2_with (first
            | (go_at_call 18; (with_reducible refine (LE.out _).mono ?_); rintro e w9 ⟨ve, rfl, hb9, hr9⟩)
            | (go_at_call 20; (with_reducible refine (SM.out w9 _ _ LF (row_rd hr9) (H8.out.2.1.below hb9)).mono ?_); rintro e wa ⟨rfl, hba⟩)
            | (go_at_call 23; (with_reducible refine (OR.out wa _ (H8.out.2.1.below (bst hb9 hba))).mono ?_); rintro e wb ⟨rfl, hbb, hrb⟩)
            | (go_at_call 20; (with_reducible refine (SM.out wb _ _ OD (hrb.rd n (Nat.le_refl _)) (H8.out.2.2.below (bst (bst hb9 hba) hbb))).mono ?_); rintro e wc ⟨rfl, hbc⟩)
            | (go_at_call 16; (with_reducible refine (head_any _).mono ?_); rintro e wd ⟨rfl, hbd⟩)
            | fail)
          go_ret
          exact ⟨rfl, bst (bst (bst (bst (bst H8.out.1 hb9) hba) hbb) hbc) hbd⟩
end Go.Proofs.Ytclblidfamabdaa
