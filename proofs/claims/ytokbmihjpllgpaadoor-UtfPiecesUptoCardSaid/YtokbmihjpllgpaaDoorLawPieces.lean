/- The law of the pieces. -/
import Derived.Test.YtokbmihjpllgpaaDoorStrW
import Derived.Test.YtokbmihjpllgpaaDoorFeedR
import Derived.Deep.DrawnRows
import Derived.Deep.DeepCutAuto
import Derived.Deep.RegionWith
set_option linter.unusedVariables false
set_option linter.unusedSimpArgs false
namespace Go.Proofs.YtokbmihjpllgpaaDoor
open Go.RowKit Go.Shelf Go.Lib Go.BigFrame
attribute [local go_sem] Oper.semAt_some

/-- A slice of slices of bytes that came in. -/
def ArgBB (w : World) (v : Value) (ps : List (List UInt8)) : Prop := ∃ A cap, v = .slice A ps.length cap ∧ (0 < ps.length → ∃ g o, A = some ⟨g, o, none⟩ ∧ ∀ (j : Nat) (l : List UInt8), ps[j]? = some l → ∃ x, w.cell? ⟨g, o + j, none⟩ = some x ∧ Bsx w x l)
/-- What a round knows. -/
structure Pi (w : World) (p r : Nat) (l : List UInt8) (wr : World) : Prop where
  below : Below w.heap.size w wr
  pc : Pc wr p l
  pr : PcR wr r l
  le : l.length ≤ 3
  hp : w.heap.size ≤ p ∧ p < r
theorem own_make (W : World) (n b : Nat) (hb : b ≤ W.heap.size) (hn : n ≤ 8388608) : (W.alloc (.cells (Array.replicate n (.int .u8 0)) 5)).ownsRow b 5 1 (.slice (some ⟨W.heap.size, 0, none⟩) 0 n) 0 [] :=
  ⟨by simp, .inr ⟨W.heap.size, n, _, rfl, hb, World.alloc_heap_new W _, Nat.zero_le _, by simp only [maxLen]; omega, by simp, by simp⟩⟩

theorem own_make_at (W : World) (q n b : Nat) (hq : W.heap.size = q) (hb : b ≤ q) (hn : n ≤ 8388608) : (W.alloc (.cells (Array.replicate n (.int .u8 0)) 5)).ownsRow b 5 1 (.slice (some ⟨q, 0, none⟩) 0 n) 0 [] := by
  subst hq; exact own_make W n b hb hn
theorem ownsRow_drew {W : World} {b n sz : Nat} {e : TypeId} {v : Value} {xs : List Value} (h : W.ownsRow b e sz v n xs) : W.drew.ownsRow b e sz v n xs := h

set_option maxRecDepth 1000000 in
set_option maxHeartbeats 8000000 in
theorem utfPieces_law (pv cv : Value) (ps : List (List UInt8)) (c : List Int) (hp0 : ps.length ≤ 1048576) (hpl : ∀ l ∈ ps, l.length ≤ 1048576) (hc : c.length ≤ 1048576) (w : World) (hP : ArgBB w pv ps) (hC : ArgI w cv c) (T : Tabs w) : Calls Tryd.prog 3 #[pv, cv] w fun e w' => e = .returned (.bool true) ∧ Below w.heap.size w w' := by
  obtain ⟨CA, cc, rfl, hCA⟩ := hC
  obtain ⟨PA, pcap, rfl, hPA⟩ := hP
  obtain ⟨N, hN⟩ : ∃ N, c.length = N := ⟨_, rfl⟩
  rw [hN] at hCA hc ⊢
  obtain ⟨M, hM⟩ : ∃ M, ps.length = M := ⟨_, rfl⟩
  rw [hM] at hPA hp0 ⊢
  have HN := Lib.hid hN
  have HM := Lib.hid hM
  have HT := Lib.hid T
  have HCA := Lib.hid hCA
  have HPA := Lib.hid hPA
  have HPL := Lib.hid hpl
  have hT2 := T.size
  clear T hCA hPA hN hM hpl
  go_enter Tryd.func3, Tryd.ntmps3
  go_wp2_with (go_at_call 6; (with_reducible refine (newPc_any w).mono ?_); rintro e w1 ⟨rfl, hb1, hp1, hs1⟩)
  have hI : Pi w w.heap.size w1.heap.size [] (w1.alloc (.cells #[.slice none 0 0] 29)) :=
    ⟨hb1.alloc hb1.size _, hp1.below ((Below.refl _ _).alloc (Nat.le_refl _) _), ⟨_, World.alloc_heap_new w1 _, .inl ⟨rfl, rfl⟩⟩, by simp, Nat.le_refl _, hs1⟩
  clear hp1
  go_loopw [7] (fun iv wr => ∃ (i : Nat) (l : List UInt8), iv = .int .i64 (i : Int) ∧ i ≤ M ∧ Pi w w.heap.size w1.heap.size l wr) (fun iv _ => M - (intOf iv).toNat)
  case atStart => exact ⟨0, [], rfl, Nat.zero_le _, hI⟩
  case round =>
    clear hI
    obtain ⟨i, l, rfl, hi, hPi⟩ := hrel
    by_cases hlt : i < M
    · obtain ⟨pg, po, rfl, hcells⟩ := HPA.out (by omega)
      obtain ⟨b, hb⟩ : ∃ b, ps[i]? = some b := ⟨_, List.getElem?_eq_getElem (by rw [HM.out]; exact hlt)⟩
      obtain ⟨x, hx, hxB⟩ := hcells i b hb
      have hbl := HPL.out b (List.mem_of_getElem? hb)
      have hxF : ∀ W, Fr (fun k => k < w.heap.size) w W → Bsx W x b := fun W h => hxB.fr h (fun k h => h)
      have hxW : ∀ W, Below w.heap.size w W → Bsx W x b := fun W h => hxB.below h
      obtain ⟨ao, bc, rfl, hlb⟩ := hxB.form
      have hxl := World.block_lt_of_cell? _ _ hx
      have cx : wr.cell? ⟨pg, po + i, none⟩ = some (.slice ao b.length bc) := (World.cell?_of_block (hPi.below.block _ hxl)).trans hx
      have hws := hPi.below.size
      have KC : Hid (∀ W, Below wr.heap.size wr W → W.cell? ⟨pg, po + i, none⟩ = some (.slice ao b.length bc)) := Lib.hid (fun W h => (World.cell?_of_block (h.block _ (Nat.lt_of_lt_of_le hxl hws))).trans cx)
      obtain ⟨n, hn⟩ : ∃ n, b.length = n := ⟨_, rfl⟩
      rw [hn] at KC cx hbl hlb
      have hmk : ∀ W : World, (Instr.makeSlice 27 (.int .i64 0) (.int .i64 ((n : Int) + 3))).run Tryd.prog W = .ok (.slice (some ⟨W.heap.size, 0, none⟩) 0 (n + 3)) (W.alloc (.cells (Array.replicate (n + 3) (.int .u8 0)) 5)) := fun W => by
        obtain ⟨i8, hi8, hz8, hsz8, hby8⟩ := info_parts Tryd.infoB8
        have := run_make (P := Tryd.prog) W 27 5 i8 _ Tryd.underlying27 hi8 hz8 .i64 .i64 0 ((n : Int) + 3) (by omega) (by omega) (by rw [hby8]; omega) (by omega)
        rw [this, hsz8, show ((n : Int) + 3).toNat = n + 3 by omega]
        congr 3
        unfold madeCells
        simp [Value.cells]
        refine Array.ext (by simp) (fun i h1 h2 => ?_)
        simp [Nat.mod_one]
      have hwr3 : IntKind.i64.wrap ((n : Int) + 3) = (n : Int) + 3 := IntWalk.i64_in _ (by omega)
      have AP1 : Hid (∀ W v, W.ownsRow wr.heap.size 5 1 v 0 [] → Below wr.heap.size wr W → ∃ v' w', (Builtin.append_ #[27, 27] 27 #[v, .slice ao n bc]).run Tryd.prog W = .ok v' w' ∧ (w'.ownsRow wr.heap.size 5 1 v' n (bcs b) ∧ W.grownBy w' v.ownBlock ∧ Below wr.heap.size wr w')) := Lib.hid (fun W v h hb => by
        obtain ⟨v', w', h1, h2, h3⟩ := app_own_b W wr.heap.size v [] b (.slice ao n bc) h (hn ▸ hxW W (hPi.below.trans (hb.mono hws))) hb.size (by simp; omega)
        rw [List.nil_append, hn] at h2
        exact ⟨v', w', h1, h2, h3, hb.grown h3 hb.size (fun q e => (h.lt q e).1)⟩)
      have AP2 : Hid (∀ W v g, W.ownsRow wr.heap.size 5 1 v n (bcs b) → Below wr.heap.size wr W → Bsl W (.slice (some ⟨g, 0, none⟩) 1 1) [169] → ∃ v' w', (Builtin.append_ #[27, 27] 27 #[v, .slice (some ⟨g, 0, none⟩) 1 1]).run Tryd.prog W = .ok v' w' ∧ (w'.ownsRow wr.heap.size 5 1 v' (n + 1) (bcs (b ++ [169])) ∧ Below wr.heap.size wr w')) := Lib.hid (fun W v g h hb hx => by
        obtain ⟨v', w', h1, h2, h3⟩ := app_own_b W wr.heap.size v b [169] (.slice (some ⟨g, 0, none⟩) 1 1) (hn.symm ▸ h) (.inl hx) hb.size (by simp; omega)
        rw [List.length_append, hn] at h2
        exact ⟨v', w', h1, h2, hb.grown h3 hb.size (fun q e => (h.lt q e).1)⟩)
      have HPi := Lib.hid hPi
      have HX := Lib.hid (And.intro hn (And.intro hxW hxF))
      clear hPi hxW hxF hxB hx hcells hb hn
      go_upto_region 8 with fail
      go_cut [8] (fun s8 wx => wx.ownsRow wr.heap.size 5 1 s8 (n + 1) (bcs (b ++ [169])) ∧ Below wr.heap.size wr wx)
      case first =>
        go_region_held3 (fun w' => w'.cell? ⟨pg, po + i, none⟩ = some (.slice ao n bc) ∧ Below wr.heap.size wr w') (first | (exact ⟨cx, Below.refl _ _⟩) | (refine ⟨KC.out _ ?_, ?_⟩ <;> (repeat' (first | assumption | exact Below.refl _ _ | refine Below.drew ?_ | refine Below.alloc ?_ ?_ _ | exact And.right (by assumption) | exact Nat.le_refl _ | exact Below.size (by assumption) | (simp; done) | (simp; omega)))))
          ((first
            | (refine step_append_any (R := fun v' w' => w'.ownsRow wr.heap.size 5 1 v' n (bcs b) ∧ World.grownBy _ w' _ ∧ Below wr.heap.size wr w') (by rfl) (.tmp 29) (.tmp 33) _ (by rfl) _ _ (by rfl) (by rfl) (AP1.out _ _ (by first | exact own_make_at _ _ _ _ (by simp) (by omega) (by omega) | exact (own_make_at _ _ _ _ (by simp) (by omega) (by omega)).alloc _ | exact ownsRow_drew (own_make_at _ _ _ _ (by simp) (by omega) (by omega)) | exact ownsRow_drew ((own_make_at _ _ _ _ (by simp) (by omega) (by omega)).alloc _) | fail) (by (repeat' (first | assumption | exact Below.refl _ _ | refine Below.drew ?_ | refine Below.alloc ?_ ?_ _ | exact And.right (by assumption) | exact Nat.le_refl _ | exact Below.size (by assumption) | (simp; done) | (simp; omega))))) ?_; rintro v2 w3 ⟨ho3, hg3, hb3⟩)
            | (refine step_append_any (R := fun v' w' => w'.ownsRow wr.heap.size 5 1 v' (n + 1) (bcs (b ++ [169])) ∧ Below wr.heap.size wr w') (by rfl) (.tmp 34) (.tmp 35) _ (by rfl) _ _ (by rfl) (by rfl) (AP2.out _ v2 _ (by first | exact ho3 | exact ho3.alloc _ | fail) (by (repeat' (first | assumption | exact Below.refl _ _ | refine Below.drew ?_ | refine Below.alloc ?_ ?_ _ | exact And.right (by assumption) | exact Nat.le_refl _ | exact Below.size (by assumption) | (simp; done) | (simp; omega)))) (by first | exact bsl_at _ _ [169] _ (by simp) | exact (bsl_at _ _ [169] _ (by simp)).drew | exact ((bsl_at _ _ [169] _ (by simp)).drew).grown hg3 (fun q e1 e2 => by have h1 := Option.some.inj e1; have h2 := Option.some.inj e2; simp at h1 h2; omega) | exact (((bsl_at _ _ [169] _ (by simp)).alloc _).drew).grown hg3 (fun q e1 e2 => by have h1 := Option.some.inj e1; have h2 := Option.some.inj e2; simp at h1 h2; omega) | fail)) ?_; rintro v3 w4 ⟨ho4, hb4⟩)
            | fail))
        all_goals (go_wp2_with fail; go_meet; exact ⟨ho4, hb4⟩)
      case rest =>
        obtain ⟨ho4, hb4⟩ := hcut
        clear hmk hwr3
        obtain ⟨A8, C8, rfl, hA8⟩ := own_form ho4
        obtain ⟨g8, rfl⟩ := hA8 (by omega)
        have hg8 := ho4.lt g8 rfl
        have hpi := HPi.out
        have hpb := hpi.hp
        have cx4 := KC.out wc hb4
        have hB8 : Bsl wc (.slice (some ⟨g8, 0, none⟩) (n + 1) C8) (b ++ [169]) := (bsl_of_row (by simp [HX.out.1]) ho4).1
        have hnC : n + 1 ≤ C8 := by
          rcases hB8 with ⟨h1, _⟩ | ⟨g', o', d, h1, hle, _⟩
          · cases h1
          · injection h1 with h3 h4 h5; omega
        have hBn : Bsl wc (.slice (some ⟨g8, 0, none⟩) n C8) b := by
          have := hB8.takes (M := n) (by omega)
          rwa [List.take_left' HX.out.1] at this
        have hst8 := slice_to (some ⟨g8, 0, none⟩) (n + 1) C8 n (by omega) (fun a ha => by cases ha; exact ⟨g8, 0, rfl⟩) hnC
        have cm4 : wc.cell? ⟨g8, n, none⟩ = some (.int .u8 169) := row_cell ho4 n _ (by simp [bcs, HX.out.1])
        obtain ⟨al, hal⟩ : ∃ al, l ++ b = al := ⟨_, rfl⟩
        have hall : al.length ≤ 1048579 := by rw [← hal, List.length_append, HX.out.1]; have := hpi.le; omega
        obtain ⟨R, hR⟩ : ∃ R, (⟨(al.take (al.length - hold al)).toArray⟩ : ByteArray) = R := ⟨_, rfl⟩
        obtain ⟨D, hD⟩ : ∃ D, al.drop (al.length - hold al) = D := ⟨_, rfl⟩
        have hDl : D.length ≤ 3 := by rw [← hD, List.length_drop]; have := hold_le al; omega
        have hpc4 : Pc wc w.heap.size l := hpi.pc.below hb4
        have hpr4 : PcR wc w1.heap.size l := hpi.pr.below hb4
        have hT4 : Tabs wc := (HT.out.below hpi.below hT2).below hb4 (by omega)
        have FD := Lib.hid (feed_fr_is w.heap.size _ l b al D R wc hT2 hpc4 hBn hT4 (by rw [HX.out.1]; have := hpi.le; omega) hal hR hD)
        have hrs : w1.heap.size < wr.heap.size := hpi.pr.lt
        have HB4 := Lib.hid (And.intro hpc4 (And.intro hpr4 (And.intro ho4 (And.intro hb4 hpi.below))))
        have HEQ := Lib.hid (And.intro hal (And.intro hR hD))
        have HBN := Lib.hid (And.intro hBn (And.intro cx4 cm4))
        clear hpi hpc4 hpr4 hT4 hal hR hD hall hBn hB8 ho4 hb4 hA8 cx
        go_upto_region 10 with (go_at_call 7; (with_reducible refine FD.out.mono ?_); rintro e w5 ⟨rfl, hf5, hp5⟩)
        have hFc : Fr (fun k => k < w.heap.size) w wc := Fr.of_below (HB4.out.2.2.2.2.trans (HB4.out.2.2.2.1.mono hws)) (fun k _ h => h)
        have hcv1 : ∀ W, Fr (fun k => k ≠ w1.heap.size) w5 W → (convert 27 9 (.slice (some ⟨g8, 0, none⟩) n C8)).run Tryd.prog W = .ok (.string ⟨b.toArray⟩) W := fun W h =>
          conv_bsl ((HBN.out.1.frs hf5 (fun q e _ => by cases e; show g8 ≠ w.heap.size; omega)).frs h (fun q e _ => by cases e; show g8 ≠ w1.heap.size; omega))
        have hcv2 : ∀ W, Fr (fun k => k ≠ w1.heap.size) w5 W → (convert 27 9 (.slice ao n bc)).run Tryd.prog W = .ok (.string ⟨b.toArray⟩) W := fun W h =>
          conv_bsx (HX.out.1 ▸ HX.out.2.2 W ((hFc.trans (hf5.mono (fun k _ hk => by omega))).trans (h.mono (fun k _ hk => by omega))))
        have KP := Lib.hid (fun W (h : Fr (fun k => k ≠ w1.heap.size) w5 W) => h.cell (hf5.cell cx4 (show pg ≠ _ by omega)) (show pg ≠ _ by omega))
        have KM := Lib.hid (fun W (h : Fr (fun k => k ≠ w1.heap.size) w5 W) => h.cell (hf5.cell cm4 (show g8 ≠ _ by omega)) (show g8 ≠ _ by omega))
        have hpr5 : PcR w5 w1.heap.size l := HB4.out.2.1.fr hf5 (by omega) HB4.out.1
        have cx5 := KP.out _ (Fr.refl _ _)
        have cm5 := KM.out _ (Fr.refl _ _)
        have hl5 := HB4.out
        have FR : Hid (∀ W, Fr (fun k => k ≠ w1.heap.size) w5 W → PcR W w1.heap.size l → Pcn W w.heap.size D wc.heap.size → Calls Tryd.prog 8 #[.pointer (some ⟨w1.heap.size, 0, none⟩), .slice ao n bc] W fun e w' => e = .returned (.string R) ∧ Fr (fun k => k ≠ w1.heap.size) w5 w' ∧ PcRn w' w1.heap.size D wc.heap.size ∧ Pcn w' w.heap.size D wc.heap.size) := Lib.hid (fun W h hr hp => by
          have hX := HX.out.1 ▸ HX.out.2.2 W ((hFc.trans (hf5.mono (fun k _ hk => by omega))).trans (h.mono (fun k _ hk => by omega)))
          have := feedR_any w1.heap.size (.slice ao n bc) l b W hr hX (by have := HEQ.out.1; have := HPi.out.le; have := HX.out.1; omega)
          rw [HEQ.out.1, HEQ.out.2.1, HEQ.out.2.2] at this
          refine this.mono fun e w' ⟨h1, h2, h3⟩ => ⟨h1, h.trans h2, h3.mono ?_, hp.frR h2 (by omega) hr⟩
          have := hf5.size; have := h.size; omega)
        have HP5 := Lib.hid (And.intro hpr5 hp5)
        have HF5 := Lib.hid (And.intro hf5 hFc)
        obtain ⟨BB, hBB⟩ : ∃ B, (⟨b.toArray⟩ : ByteArray) = B := ⟨_, rfl⟩
        rw [hBB] at hcv1 hcv2
        obtain ⟨dn, hdn⟩ : ∃ d, D.length = d := ⟨_, rfl⟩
        have HDN := Lib.hid hdn
        rw [hdn] at hDl
        clear hBB hf5 hFc hpr5 hp5 hl5 cx4 cm4 hdn
        have hix0 : (0 : Int) ≤ (n : Int) := by omega
        have hix1 : (n : Int) < ((n + 1 : Nat) : Int) := by omega
        have hix2 : (n : Int) < (n : Int) + 1 := by omega
        have hix3 : (n : Int).toNat = n := by omega
        go_cut [90] (fun s90 wx => s90 = .bool false ∧ Pcn wx w.heap.size D wc.heap.size ∧ PcRn wx w1.heap.size D wc.heap.size ∧ Fr (fun k => k ≠ w1.heap.size) w5 wx)
        case first =>
          refine wp_region_noPanic ?_
          refine wp_region_held_drew (S := (fun W => W.cell? ⟨pg, po + i, none⟩ = some (.slice ao n bc) ∧ W.cell? ⟨g8, n, none⟩ = some (.int .u8 169) ∧ Fr (fun k => k ≠ w1.heap.size) w5 W)) (by kernel_rfl) ⟨KP.out _ (Fr.refl _ _).drew, KM.out _ (Fr.refl _ _).drew, (Fr.refl _ _).drew⟩ (fun hHeld => ?_)
          refine wpAnyH_take (i := 0) (oi := { dst := some 46, op := Op.move (Operand.tmp 8), type := 27, pos := "law.go:137", after := #[], guard := none }) (v := ?v0) rfl (by kernel_rfl) (by kernel_rfl) (by kernel_rfl) (fun _ _ _ h => h) (Or.inl ⟨by rfl, ?h0⟩) (by assumption) ?r0
          case h0 => (intro W hSW; (try dsimp only at hSW); obtain ⟨s1, s2, s3⟩ := hSW; go_simp <;> (with_reducible rfl))
          try simp only [Act.put, List.setIfInBounds_toArray, List.set_cons_zero, List.set_cons_succ]
          refine wpAnyH_take (i := 1) (oi := { dst := some 47, op := Op.move (Operand.tmp 0), type := 22, pos := "law.go:137", after := #[], guard := none }) (v := ?v1) rfl (by kernel_rfl) (by kernel_rfl) (by kernel_rfl) (fun _ _ _ h => h) (Or.inl ⟨by rfl, ?h1⟩) (by assumption) ?r1
          case h1 => (intro W hSW; (try dsimp only at hSW); obtain ⟨s1, s2, s3⟩ := hSW; go_simp <;> (with_reducible rfl))
          try simp only [Act.put, List.setIfInBounds_toArray, List.set_cons_zero, List.set_cons_succ]
          refine wpAnyH_take (i := 2) (oi := { dst := some 48, op := Op.move (Operand.tmp 7), type := 3, pos := "law.go:137", after := #[], guard := none }) (v := ?v2) rfl (by kernel_rfl) (by kernel_rfl) (by kernel_rfl) (fun _ _ _ h => h) (Or.inl ⟨by rfl, ?h2⟩) (by assumption) ?r2
          case h2 => (intro W hSW; (try dsimp only at hSW); obtain ⟨s1, s2, s3⟩ := hSW; go_simp <;> (with_reducible rfl))
          try simp only [Act.put, List.setIfInBounds_toArray, List.set_cons_zero, List.set_cons_succ]
          refine wpAnyH_take (i := 3) (oi := { dst := some 49, op := Op.indexAddr 22 (Operand.tmp 47) (Operand.tmp 48), type := 0, pos := "law.go:137", after := #[{ on := 1, ground := Ground.data }, { on := 2, ground := Ground.data }], guard := none }) (v := ?v3) rfl (by kernel_rfl) (by kernel_rfl) (by kernel_rfl) (fun _ _ _ h => h) (Or.inl ⟨by rfl, ?h3⟩) (by assumption) ?r3
          case h3 => (intro W hSW; (try dsimp only at hSW); obtain ⟨s1, s2, s3⟩ := hSW; go_simp <;> (with_reducible rfl))
          try simp only [Act.put, List.setIfInBounds_toArray, List.set_cons_zero, List.set_cons_succ]
          refine wpAnyH_take (i := 4) (oi := { dst := some 50, op := Op.load 27 (Operand.tmp 49), type := 27, pos := "law.go:137", after := #[{ on := 3, ground := Ground.data }], guard := none }) (v := ?v4) rfl (by kernel_rfl) (by kernel_rfl) (by kernel_rfl) (fun _ _ _ h => h) (Or.inl ⟨by rfl, ?h4⟩) (by assumption) ?r4
          case h4 => (intro W hSW; (try dsimp only at hSW); obtain ⟨s1, s2, s3⟩ := hSW; go_simp <;> (with_reducible rfl))
          try simp only [Act.put, List.setIfInBounds_toArray, List.set_cons_zero, List.set_cons_succ]
          refine wpAnyH_take (i := 5) (oi := { dst := some 51, op := Op.call { callee := Callee.builtin Builtin.len, args := #[Operand.tmp 50], argTypes := #[27] }, type := 3, pos := "law.go:137", after := #[{ on := 4, ground := Ground.data }], guard := none }) (v := ?v5) rfl (by kernel_rfl) (by kernel_rfl) (by kernel_rfl) (fun _ _ _ h => h) (Or.inl ⟨by rfl, ?h5⟩) (by assumption) ?r5
          case h5 => (intro W hSW; (try dsimp only at hSW); obtain ⟨s1, s2, s3⟩ := hSW; go_simp <;> (with_reducible rfl))
          try simp only [Act.put, List.setIfInBounds_toArray, List.set_cons_zero, List.set_cons_succ]
          refine wpAnyH_take (i := 6) (oi := { dst := some 52, op := Op.slice 27 (Operand.tmp 46) none (some (Operand.tmp 51)) none, type := 27, pos := "law.go:137", after := #[{ on := 0, ground := Ground.data }, { on := 5, ground := Ground.data }], guard := none }) (v := ?v6) rfl (by kernel_rfl) (by kernel_rfl) (by kernel_rfl) (fun _ _ _ h => h) (Or.inl ⟨by rfl, ?h6⟩) (by assumption) ?r6
          case h6 => (intro W hSW; (try dsimp only at hSW); obtain ⟨s1, s2, s3⟩ := hSW; go_simp <;> (with_reducible rfl))
          try simp only [Act.put, List.setIfInBounds_toArray, List.set_cons_zero, List.set_cons_succ]
          refine wpAnyH_take (i := 7) (oi := { dst := some 53, op := Op.convert 27 9 (Operand.tmp 52), type := 9, pos := "law.go:137", after := #[{ on := 6, ground := Ground.data }], guard := none }) (v := ?v7) rfl (by kernel_rfl) (by kernel_rfl) (by kernel_rfl) (fun _ _ _ h => h) (Or.inl ⟨by rfl, ?h7⟩) (by assumption) ?r7
          case h7 => (intro W hSW; (try dsimp only at hSW); obtain ⟨s1, s2, s3⟩ := hSW; go_simp <;> (with_reducible rfl))
          try simp only [Act.put, List.setIfInBounds_toArray, List.set_cons_zero, List.set_cons_succ]
          refine wpAnyH_take (i := 8) (oi := { dst := some 54, op := Op.move (Operand.tmp 0), type := 22, pos := "law.go:137", after := #[], guard := none }) (v := ?v8) rfl (by kernel_rfl) (by kernel_rfl) (by kernel_rfl) (fun _ _ _ h => h) (Or.inl ⟨by rfl, ?h8⟩) (by assumption) ?r8
          case h8 => (intro W hSW; (try dsimp only at hSW); obtain ⟨s1, s2, s3⟩ := hSW; go_simp <;> (with_reducible rfl))
          try simp only [Act.put, List.setIfInBounds_toArray, List.set_cons_zero, List.set_cons_succ]
          refine wpAnyH_take (i := 9) (oi := { dst := some 55, op := Op.move (Operand.tmp 7), type := 3, pos := "law.go:137", after := #[], guard := none }) (v := ?v9) rfl (by kernel_rfl) (by kernel_rfl) (by kernel_rfl) (fun _ _ _ h => h) (Or.inl ⟨by rfl, ?h9⟩) (by assumption) ?r9
          case h9 => (intro W hSW; (try dsimp only at hSW); obtain ⟨s1, s2, s3⟩ := hSW; go_simp <;> (with_reducible rfl))
          try simp only [Act.put, List.setIfInBounds_toArray, List.set_cons_zero, List.set_cons_succ]
          refine wpAnyH_take (i := 10) (oi := { dst := some 56, op := Op.indexAddr 22 (Operand.tmp 54) (Operand.tmp 55), type := 0, pos := "law.go:137", after := #[{ on := 8, ground := Ground.data }, { on := 9, ground := Ground.data }], guard := none }) (v := ?v10) rfl (by kernel_rfl) (by kernel_rfl) (by kernel_rfl) (fun _ _ _ h => h) (Or.inl ⟨by rfl, ?h10⟩) (by assumption) ?r10
          case h10 => (intro W hSW; (try dsimp only at hSW); obtain ⟨s1, s2, s3⟩ := hSW; go_simp <;> (with_reducible rfl))
          try simp only [Act.put, List.setIfInBounds_toArray, List.set_cons_zero, List.set_cons_succ]
          refine wpAnyH_take (i := 11) (oi := { dst := some 57, op := Op.load 27 (Operand.tmp 56), type := 27, pos := "law.go:137", after := #[{ on := 10, ground := Ground.data }], guard := none }) (v := ?v11) rfl (by kernel_rfl) (by kernel_rfl) (by kernel_rfl) (fun _ _ _ h => h) (Or.inl ⟨by rfl, ?h11⟩) (by assumption) ?r11
          case h11 => (intro W hSW; (try dsimp only at hSW); obtain ⟨s1, s2, s3⟩ := hSW; go_simp <;> (with_reducible rfl))
          try simp only [Act.put, List.setIfInBounds_toArray, List.set_cons_zero, List.set_cons_succ]
          refine wpAnyH_take (i := 12) (oi := { dst := some 58, op := Op.convert 27 9 (Operand.tmp 57), type := 9, pos := "law.go:137", after := #[{ on := 11, ground := Ground.data }], guard := none }) (v := ?v12) rfl (by kernel_rfl) (by kernel_rfl) (by kernel_rfl) (fun _ _ _ h => h) (Or.inl ⟨by rfl, ?h12⟩) (by assumption) ?r12
          case h12 => (intro W hSW; (try dsimp only at hSW); obtain ⟨s1, s2, s3⟩ := hSW; go_simp <;> (with_reducible rfl))
          try simp only [Act.put, List.setIfInBounds_toArray, List.set_cons_zero, List.set_cons_succ]
          refine wpAnyH_take (i := 13) (oi := { dst := some 59, op := Op.binOp BinOp.neq 9 (Operand.tmp 53) (Operand.tmp 58) 9, type := 4, pos := "law.go:137", after := #[{ on := 7, ground := Ground.data }, { on := 12, ground := Ground.data }], guard := none }) (v := ?v13) rfl (by kernel_rfl) (by kernel_rfl) (by kernel_rfl) (fun _ _ _ h => h) (Or.inl ⟨by rfl, ?h13⟩) (by assumption) ?r13
          case h13 => (intro W hSW; (try dsimp only at hSW); obtain ⟨s1, s2, s3⟩ := hSW; go_simp <;> (with_reducible rfl))
          try simp only [Act.put, List.setIfInBounds_toArray, List.set_cons_zero, List.set_cons_succ]
          refine wpAnyH_take (i := 14) (oi := { dst := some 60, op := Op.move (Operand.tmp 59), type := 4, pos := "law.go:137", after := #[{ on := 13, ground := Ground.data }], guard := none }) (v := ?v14) rfl (by kernel_rfl) (by kernel_rfl) (by kernel_rfl) (fun _ _ _ h => h) (Or.inl ⟨by rfl, ?h14⟩) (by assumption) ?r14
          case h14 => (intro W hSW; (try dsimp only at hSW); obtain ⟨s1, s2, s3⟩ := hSW; go_simp <;> (with_reducible rfl))
          try simp only [Act.put, List.setIfInBounds_toArray, List.set_cons_zero, List.set_cons_succ]
          refine wpAnyH_take (i := 15) (oi := { dst := some 61, op := Op.move (Operand.tmp 8), type := 27, pos := "law.go:137", after := #[{ on := 14, ground := Ground.guard }], guard := some (14, false) }) (v := ?v15) rfl (by kernel_rfl) (by kernel_rfl) (by kernel_rfl) (fun _ _ _ h => h) (Or.inl ⟨by rfl, ?h15⟩) (by assumption) ?r15
          case h15 => (intro W hSW; (try dsimp only at hSW); obtain ⟨s1, s2, s3⟩ := hSW; go_simp <;> (with_reducible rfl))
          try simp only [Act.put, List.setIfInBounds_toArray, List.set_cons_zero, List.set_cons_succ]
          refine wpAnyH_take (i := 16) (oi := { dst := some 62, op := Op.move (Operand.tmp 0), type := 22, pos := "law.go:137", after := #[{ on := 14, ground := Ground.guard }], guard := some (14, false) }) (v := ?v16) rfl (by kernel_rfl) (by kernel_rfl) (by kernel_rfl) (fun _ _ _ h => h) (Or.inl ⟨by rfl, ?h16⟩) (by assumption) ?r16
          case h16 => (intro W hSW; (try dsimp only at hSW); obtain ⟨s1, s2, s3⟩ := hSW; go_simp <;> (with_reducible rfl))
          try simp only [Act.put, List.setIfInBounds_toArray, List.set_cons_zero, List.set_cons_succ]
          refine wpAnyH_take (i := 17) (oi := { dst := some 63, op := Op.move (Operand.tmp 7), type := 3, pos := "law.go:137", after := #[{ on := 14, ground := Ground.guard }], guard := some (14, false) }) (v := ?v17) rfl (by kernel_rfl) (by kernel_rfl) (by kernel_rfl) (fun _ _ _ h => h) (Or.inl ⟨by rfl, ?h17⟩) (by assumption) ?r17
          case h17 => (intro W hSW; (try dsimp only at hSW); obtain ⟨s1, s2, s3⟩ := hSW; go_simp <;> (with_reducible rfl))
          try simp only [Act.put, List.setIfInBounds_toArray, List.set_cons_zero, List.set_cons_succ]
          refine wpAnyH_take (i := 18) (oi := { dst := some 64, op := Op.indexAddr 22 (Operand.tmp 62) (Operand.tmp 63), type := 0, pos := "law.go:137", after := #[{ on := 16, ground := Ground.data }, { on := 17, ground := Ground.data }, { on := 14, ground := Ground.guard }], guard := some (14, false) }) (v := ?v18) rfl (by kernel_rfl) (by kernel_rfl) (by kernel_rfl) (fun _ _ _ h => h) (Or.inl ⟨by rfl, ?h18⟩) (by assumption) ?r18
          case h18 => (intro W hSW; (try dsimp only at hSW); obtain ⟨s1, s2, s3⟩ := hSW; go_simp <;> (with_reducible rfl))
          try simp only [Act.put, List.setIfInBounds_toArray, List.set_cons_zero, List.set_cons_succ]
          refine wpAnyH_take (i := 19) (oi := { dst := some 65, op := Op.load 27 (Operand.tmp 64), type := 27, pos := "law.go:137", after := #[{ on := 18, ground := Ground.data }, { on := 14, ground := Ground.guard }], guard := some (14, false) }) (v := ?v19) rfl (by kernel_rfl) (by kernel_rfl) (by kernel_rfl) (fun _ _ _ h => h) (Or.inl ⟨by rfl, ?h19⟩) (by assumption) ?r19
          case h19 => (intro W hSW; (try dsimp only at hSW); obtain ⟨s1, s2, s3⟩ := hSW; go_simp <;> (with_reducible rfl))
          try simp only [Act.put, List.setIfInBounds_toArray, List.set_cons_zero, List.set_cons_succ]
          refine wpAnyH_take (i := 20) (oi := { dst := some 66, op := Op.call { callee := Callee.builtin Builtin.len, args := #[Operand.tmp 65], argTypes := #[27] }, type := 3, pos := "law.go:137", after := #[{ on := 19, ground := Ground.data }, { on := 14, ground := Ground.guard }], guard := some (14, false) }) (v := ?v20) rfl (by kernel_rfl) (by kernel_rfl) (by kernel_rfl) (fun _ _ _ h => h) (Or.inl ⟨by rfl, ?h20⟩) (by assumption) ?r20
          case h20 => (intro W hSW; (try dsimp only at hSW); obtain ⟨s1, s2, s3⟩ := hSW; go_simp <;> (with_reducible rfl))
          try simp only [Act.put, List.setIfInBounds_toArray, List.set_cons_zero, List.set_cons_succ]
          refine wpAnyH_take (i := 21) (oi := { dst := some 67, op := Op.indexAddr 27 (Operand.tmp 61) (Operand.tmp 66), type := 0, pos := "law.go:137", after := #[{ on := 15, ground := Ground.data }, { on := 20, ground := Ground.data }, { on := 14, ground := Ground.guard }], guard := some (14, false) }) (v := ?v21) rfl (by kernel_rfl) (by kernel_rfl) (by kernel_rfl) (fun _ _ _ h => h) (Or.inl ⟨by rfl, ?h21⟩) (by assumption) ?r21
          case h21 => (intro W hSW; (try dsimp only at hSW); obtain ⟨s1, s2, s3⟩ := hSW; go_simp <;> (with_reducible rfl))
          try simp only [Act.put, List.setIfInBounds_toArray, List.set_cons_zero, List.set_cons_succ]
          refine wpAnyH_take (i := 22) (oi := { dst := some 68, op := Op.load 5 (Operand.tmp 67), type := 5, pos := "law.go:137", after := #[{ on := 21, ground := Ground.data }, { on := 14, ground := Ground.guard }], guard := some (14, false) }) (v := ?v22) rfl (by kernel_rfl) (by kernel_rfl) (by kernel_rfl) (fun _ _ _ h => h) (Or.inl ⟨by rfl, ?h22⟩) (by assumption) ?r22
          case h22 => (intro W hSW; (try dsimp only at hSW); obtain ⟨s1, s2, s3⟩ := hSW; go_simp <;> (with_reducible rfl))
          try simp only [Act.put, List.setIfInBounds_toArray, List.set_cons_zero, List.set_cons_succ]
          refine wpAnyH_take (i := 23) (oi := { dst := some 69, op := Op.binOp BinOp.neq 5 (Operand.tmp 68) (Operand.const (Value.int IntKind.u8 169)) 5, type := 4, pos := "law.go:137", after := #[{ on := 22, ground := Ground.data }, { on := 14, ground := Ground.guard }], guard := some (14, false) }) (v := ?v23) rfl (by kernel_rfl) (by kernel_rfl) (by kernel_rfl) (fun _ _ _ h => h) (Or.inl ⟨by rfl, ?h23⟩) (by assumption) ?r23
          case h23 => (intro W hSW; (try dsimp only at hSW); obtain ⟨s1, s2, s3⟩ := hSW; go_simp <;> (with_reducible rfl))
          try simp only [Act.put, List.setIfInBounds_toArray, List.set_cons_zero, List.set_cons_succ]
          refine wpAnyH_take (i := 24) (oi := { dst := some 70, op := Op.pick (Operand.tmp 60) (Operand.const (Value.bool true)) (Operand.tmp 69), type := 4, pos := "law.go:137", after := #[{ on := 14, ground := Ground.data }, { on := 23, ground := Ground.data }], guard := none }) (v := ?v24) rfl (by kernel_rfl) (by kernel_rfl) (by kernel_rfl) (fun _ _ _ h => h) (Or.inl ⟨by rfl, ?h24⟩) (by assumption) ?r24
          case h24 => (intro W hSW; (try dsimp only at hSW); obtain ⟨s1, s2, s3⟩ := hSW; go_simp <;> (with_reducible rfl))
          try simp only [Act.put, List.setIfInBounds_toArray, List.set_cons_zero, List.set_cons_succ]
          refine wpAnyH_take (i := 25) (oi := { dst := some 71, op := Op.move (Operand.tmp 70), type := 4, pos := "law.go:137", after := #[{ on := 24, ground := Ground.data }, { on := 14, ground := Ground.chain }], guard := none }) (v := ?v25) rfl (by kernel_rfl) (by kernel_rfl) (by kernel_rfl) (fun _ _ _ h => h) (Or.inl ⟨by rfl, ?h25⟩) (by assumption) ?r25
          case h25 => (intro W hSW; (try dsimp only at hSW); obtain ⟨s1, s2, s3⟩ := hSW; go_simp <;> (with_reducible rfl))
          try simp only [Act.put, List.setIfInBounds_toArray, List.set_cons_zero, List.set_cons_succ]
          refine wpAnyH_take (i := 26) (oi := { dst := some 72, op := Op.move (Operand.tmp 9), type := 9, pos := "law.go:137", after := #[{ on := 25, ground := Ground.guard }], guard := some (25, false) }) (v := ?v26) rfl (by kernel_rfl) (by kernel_rfl) (by kernel_rfl) (fun _ _ _ h => h) (Or.inl ⟨by rfl, ?h26⟩) (by assumption) ?r26
          case h26 => (intro W hSW; (try dsimp only at hSW); obtain ⟨s1, s2, s3⟩ := hSW; go_simp <;> (with_reducible rfl))
          try simp only [Act.put, List.setIfInBounds_toArray, List.set_cons_zero, List.set_cons_succ]
          refine wpAnyH_take (i := 27) (oi := { dst := some 73, op := Op.move (Operand.tmp 6), type := 26, pos := "law.go:137", after := #[{ on := 25, ground := Ground.guard }], guard := some (25, false) }) (v := ?v27) rfl (by kernel_rfl) (by kernel_rfl) (by kernel_rfl) (fun _ _ _ h => h) (Or.inl ⟨by rfl, ?h27⟩) (by assumption) ?r27
          case h27 => (intro W hSW; (try dsimp only at hSW); obtain ⟨s1, s2, s3⟩ := hSW; go_simp <;> (with_reducible rfl))
          try simp only [Act.put, List.setIfInBounds_toArray, List.set_cons_zero, List.set_cons_succ]
          refine wpAnyH_take (i := 28) (oi := { dst := some 74, op := Op.move (Operand.tmp 0), type := 22, pos := "law.go:137", after := #[{ on := 25, ground := Ground.guard }], guard := some (25, false) }) (v := ?v28) rfl (by kernel_rfl) (by kernel_rfl) (by kernel_rfl) (fun _ _ _ h => h) (Or.inl ⟨by rfl, ?h28⟩) (by assumption) ?r28
          case h28 => (intro W hSW; (try dsimp only at hSW); obtain ⟨s1, s2, s3⟩ := hSW; go_simp <;> (with_reducible rfl))
          try simp only [Act.put, List.setIfInBounds_toArray, List.set_cons_zero, List.set_cons_succ]
          refine wpAnyH_take (i := 29) (oi := { dst := some 75, op := Op.move (Operand.tmp 7), type := 3, pos := "law.go:137", after := #[{ on := 25, ground := Ground.guard }], guard := some (25, false) }) (v := ?v29) rfl (by kernel_rfl) (by kernel_rfl) (by kernel_rfl) (fun _ _ _ h => h) (Or.inl ⟨by rfl, ?h29⟩) (by assumption) ?r29
          case h29 => (intro W hSW; (try dsimp only at hSW); obtain ⟨s1, s2, s3⟩ := hSW; go_simp <;> (with_reducible rfl))
          try simp only [Act.put, List.setIfInBounds_toArray, List.set_cons_zero, List.set_cons_succ]
          refine wpAnyH_take (i := 30) (oi := { dst := some 76, op := Op.indexAddr 22 (Operand.tmp 74) (Operand.tmp 75), type := 0, pos := "law.go:137", after := #[{ on := 28, ground := Ground.data }, { on := 29, ground := Ground.data }, { on := 25, ground := Ground.guard }], guard := some (25, false) }) (v := ?v30) rfl (by kernel_rfl) (by kernel_rfl) (by kernel_rfl) (fun _ _ _ h => h) (Or.inl ⟨by rfl, ?h30⟩) (by assumption) ?r30
          case h30 => (intro W hSW; (try dsimp only at hSW); obtain ⟨s1, s2, s3⟩ := hSW; go_simp <;> (with_reducible rfl))
          try simp only [Act.put, List.setIfInBounds_toArray, List.set_cons_zero, List.set_cons_succ]
          refine wpAnyH_take (i := 31) (oi := { dst := some 77, op := Op.load 27 (Operand.tmp 76), type := 27, pos := "law.go:137", after := #[{ on := 30, ground := Ground.data }, { on := 25, ground := Ground.guard }], guard := some (25, false) }) (v := ?v31) rfl (by kernel_rfl) (by kernel_rfl) (by kernel_rfl) (fun _ _ _ h => h) (Or.inl ⟨by rfl, ?h31⟩) (by assumption) ?r31
          case h31 => (intro W hSW; (try dsimp only at hSW); obtain ⟨s1, s2, s3⟩ := hSW; go_simp <;> (with_reducible rfl))
          try simp only [Act.put, List.setIfInBounds_toArray, List.set_cons_zero, List.set_cons_succ]
          refine wpAnyH_ready (rs := [32]) (by kernel_rfl) (by simp) (AllReadyH.cons (o := { dst := some 78, op := Op.call { callee := Callee.value (Operand.func 8), args := #[Operand.tmp 73, Operand.tmp 77], argTypes := #[26, 27] }, type := 9, pos := "law.go:137", after := #[{ on := 27, ground := Ground.data }, { on := 31, ground := Ground.data }, { on := 25, ground := Ground.chain }, { on := 25, ground := Ground.guard }], guard := some (25, false) }) rfl (fun K hK => ?_) AllReadyH.nil)
          clear hcv1 hcv2
          go_simp
          refine (FR.out _ (Fr.refl _ _).drew HP5.out.1.drew HP5.out.2.drew).mono ?_
          rintro e w6 ⟨rfl, hf6, hr6, hp6⟩
          obtain ⟨ao6, c6, c6r⟩ := hr6.form
          rw [HDN.out] at c6r
          have HE6 := Lib.hid (HDN.out ▸ heldU_any w.heap.size D w6 hp6.pc : Calls Tryd.prog 9 #[.pointer (some ⟨w.heap.size, 0, none⟩)] w6 fun e w' => e = .returned (.int .i64 (dn : Int)) ∧ w6 = w')
          refine hK.out _ _ ⟨KP.out _ hf6, KM.out _ hf6, hf6⟩ (fun hHeld2 => ?_)
          clear hK K
          try simp only [Act.put, List.setIfInBounds_toArray, List.set_cons_zero, List.set_cons_succ]
          refine wpAnyH_imp (S' := (fun W => W.cell? ⟨pg, po + i, none⟩ = some (.slice ao n bc) ∧ W.cell? ⟨g8, n, none⟩ = some (.int .u8 169) ∧ Fr (fun k => k ≠ w1.heap.size) w5 W ∧ W.cell? ⟨w1.heap.size, 0, none⟩ = some (.slice ao6 dn c6))) (fun W h => ⟨h.1, h.2.1, h.2.2.1⟩) _ _ _ _ ?_
          have hHeld3 : (fun W => W.cell? ⟨pg, po + i, none⟩ = some (.slice ao n bc) ∧ W.cell? ⟨g8, n, none⟩ = some (.int .u8 169) ∧ Fr (fun k => k ≠ w1.heap.size) w5 W ∧ W.cell? ⟨w1.heap.size, 0, none⟩ = some (.slice ao6 dn c6)) w6 := ⟨KP.out _ hf6, KM.out _ hf6, hf6, c6r⟩
          refine wpAnyH_take (i := 33) (oi := { dst := some 79, op := Op.binOp BinOp.neq 9 (Operand.tmp 72) (Operand.tmp 78) 9, type := 4, pos := "law.go:137", after := #[{ on := 26, ground := Ground.data }, { on := 32, ground := Ground.data }, { on := 25, ground := Ground.guard }], guard := some (25, false) }) (v := ?v33) rfl (by kernel_rfl) (by kernel_rfl) (by kernel_rfl) (fun _ _ _ h => h) (Or.inl ⟨by rfl, ?h33⟩) (by assumption) ?r33
          case h33 => (intro W hSW; (try dsimp only at hSW); obtain ⟨s1, s2, s3, s4⟩ := hSW; go_simp <;> (with_reducible rfl))
          try simp only [Act.put, List.setIfInBounds_toArray, List.set_cons_zero, List.set_cons_succ]
          refine wpAnyH_take (i := 34) (oi := { dst := some 80, op := Op.pick (Operand.tmp 71) (Operand.const (Value.bool true)) (Operand.tmp 79), type := 4, pos := "law.go:137", after := #[{ on := 25, ground := Ground.data }, { on := 33, ground := Ground.data }], guard := none }) (v := ?v34) rfl (by kernel_rfl) (by kernel_rfl) (by kernel_rfl) (fun _ _ _ h => h) (Or.inl ⟨by rfl, ?h34⟩) (by assumption) ?r34
          case h34 => (intro W hSW; (try dsimp only at hSW); obtain ⟨s1, s2, s3, s4⟩ := hSW; go_simp <;> (with_reducible rfl))
          try simp only [Act.put, List.setIfInBounds_toArray, List.set_cons_zero, List.set_cons_succ]
          refine wpAnyH_take (i := 35) (oi := { dst := some 81, op := Op.move (Operand.tmp 80), type := 4, pos := "law.go:137", after := #[{ on := 34, ground := Ground.data }, { on := 32, ground := Ground.chain }], guard := none }) (v := ?v35) rfl (by kernel_rfl) (by kernel_rfl) (by kernel_rfl) (fun _ _ _ h => h) (Or.inl ⟨by rfl, ?h35⟩) (by assumption) ?r35
          case h35 => (intro W hSW; (try dsimp only at hSW); obtain ⟨s1, s2, s3, s4⟩ := hSW; go_simp <;> (with_reducible rfl))
          try simp only [Act.put, List.setIfInBounds_toArray, List.set_cons_zero, List.set_cons_succ]
          refine wpAnyH_take (i := 36) (oi := { dst := some 82, op := Op.move (Operand.tmp 5), type := 24, pos := "law.go:137", after := #[{ on := 35, ground := Ground.guard }], guard := some (35, false) }) (v := ?v36) rfl (by kernel_rfl) (by kernel_rfl) (by kernel_rfl) (fun _ _ _ h => h) (Or.inl ⟨by rfl, ?h36⟩) (by assumption) ?r36
          case h36 => (intro W hSW; (try dsimp only at hSW); obtain ⟨s1, s2, s3, s4⟩ := hSW; go_simp <;> (with_reducible rfl))
          try simp only [Act.put, List.setIfInBounds_toArray, List.set_cons_zero, List.set_cons_succ]
          refine wpAnyH_take (i := 38) (oi := { dst := some 84, op := Op.move (Operand.tmp 6), type := 26, pos := "law.go:137", after := #[{ on := 35, ground := Ground.guard }], guard := some (35, false) }) (v := ?v38) rfl (by kernel_rfl) (by kernel_rfl) (by kernel_rfl) (fun _ _ _ h => h) (Or.inl ⟨by rfl, ?h38⟩) (by assumption) ?r38
          case h38 => (intro W hSW; (try dsimp only at hSW); obtain ⟨s1, s2, s3, s4⟩ := hSW; go_simp <;> (with_reducible rfl))
          try simp only [Act.put, List.setIfInBounds_toArray, List.set_cons_zero, List.set_cons_succ]
          refine wpAnyH_take (i := 39) (oi := { dst := some 85, op := Op.nilCheck (Operand.tmp 84), type := 0, pos := "law.go:137", after := #[{ on := 38, ground := Ground.data }, { on := 35, ground := Ground.guard }], guard := some (35, false) }) (v := ?v39) rfl (by kernel_rfl) (by kernel_rfl) (by kernel_rfl) (fun _ _ _ h => h) (Or.inl ⟨by rfl, ?h39⟩) (by assumption) ?r39
          case h39 => (intro W hSW; (try dsimp only at hSW); obtain ⟨s1, s2, s3, s4⟩ := hSW; go_simp <;> (with_reducible rfl))
          try simp only [Act.put, List.setIfInBounds_toArray, List.set_cons_zero, List.set_cons_succ]
          refine wpAnyH_take (i := 40) (oi := { dst := some 86, op := Op.fieldAddr 29 (Operand.tmp 85) 0, type := 0, pos := "law.go:137", after := #[{ on := 39, ground := Ground.data }, { on := 35, ground := Ground.guard }], guard := some (35, false) }) (v := ?v40) rfl (by kernel_rfl) (by kernel_rfl) (by kernel_rfl) (fun _ _ _ h => h) (Or.inl ⟨by rfl, ?h40⟩) (by assumption) ?r40
          case h40 => (intro W hSW; (try dsimp only at hSW); obtain ⟨s1, s2, s3, s4⟩ := hSW; go_simp <;> (with_reducible rfl))
          try simp only [Act.put, List.setIfInBounds_toArray, List.set_cons_zero, List.set_cons_succ]
          refine wpAnyH_take (i := 41) (oi := { dst := some 87, op := Op.load 27 (Operand.tmp 86), type := 27, pos := "law.go:137", after := #[{ on := 40, ground := Ground.data }, { on := 35, ground := Ground.guard }], guard := some (35, false) }) (v := ?v41) rfl (by kernel_rfl) (by kernel_rfl) (by kernel_rfl) (fun _ _ _ h => h) (Or.inl ⟨by rfl, ?h41⟩) (by assumption) ?r41
          case h41 => (intro W hSW; (try dsimp only at hSW); obtain ⟨s1, s2, s3, s4⟩ := hSW; go_simp <;> (with_reducible rfl))
          try simp only [Act.put, List.setIfInBounds_toArray, List.set_cons_zero, List.set_cons_succ]
          refine wpAnyH_take (i := 42) (oi := { dst := some 88, op := Op.call { callee := Callee.builtin Builtin.len, args := #[Operand.tmp 87], argTypes := #[27] }, type := 3, pos := "law.go:137", after := #[{ on := 41, ground := Ground.data }, { on := 35, ground := Ground.guard }], guard := some (35, false) }) (v := ?v42) rfl (by kernel_rfl) (by kernel_rfl) (by kernel_rfl) (fun _ _ _ h => h) (Or.inl ⟨by rfl, ?h42⟩) (by assumption) ?r42
          case h42 => (intro W hSW; (try dsimp only at hSW); obtain ⟨s1, s2, s3, s4⟩ := hSW; go_simp <;> (with_reducible rfl))
          try simp only [Act.put, List.setIfInBounds_toArray, List.set_cons_zero, List.set_cons_succ]
          refine wpAnyH_ready (rs := [37]) (by kernel_rfl) (by simp) (AllReadyH.cons (o := { dst := some 83, op := Op.call { callee := Callee.value (Operand.func 9), args := #[Operand.tmp 82], argTypes := #[24] }, type := 3, pos := "law.go:137", after := #[{ on := 36, ground := Ground.data }, { on := 35, ground := Ground.chain }, { on := 35, ground := Ground.guard }], guard := some (35, false) }) rfl (fun K hK => ?_) AllReadyH.nil)
          go_simp
          refine HE6.out.mono ?_
          rintro e w7 ⟨rfl, rfl⟩
          refine hK.out _ _ ⟨KP.out _ hf6, KM.out _ hf6, hf6, c6r⟩ (fun hHeld4 => ?_)
          clear hK K
          try simp only [Act.put, List.setIfInBounds_toArray, List.set_cons_zero, List.set_cons_succ]
          refine wpAnyH_take (i := 43) (oi := { dst := some 89, op := Op.binOp BinOp.neq 3 (Operand.tmp 83) (Operand.tmp 88) 3, type := 4, pos := "law.go:137", after := #[{ on := 37, ground := Ground.data }, { on := 42, ground := Ground.data }, { on := 35, ground := Ground.guard }], guard := some (35, false) }) (v := ?v43) rfl (by kernel_rfl) (by kernel_rfl) (by kernel_rfl) (fun _ _ _ h => h) (Or.inl ⟨by rfl, ?h43⟩) (by assumption) ?r43
          case h43 => (intro W hSW; (try dsimp only at hSW); obtain ⟨s1, s2, s3, s4⟩ := hSW; go_simp <;> (with_reducible rfl))
          try simp only [Act.put, List.setIfInBounds_toArray, List.set_cons_zero, List.set_cons_succ]
          refine wpAnyH_take (i := 44) (oi := { dst := some 90, op := Op.pick (Operand.tmp 81) (Operand.const (Value.bool true)) (Operand.tmp 89), type := 4, pos := "law.go:137", after := #[{ on := 35, ground := Ground.data }, { on := 43, ground := Ground.data }], guard := none }) (v := ?v44) rfl (by kernel_rfl) (by kernel_rfl) (by kernel_rfl) (fun _ _ _ h => h) (Or.inl ⟨by rfl, ?h44⟩) (by assumption) ?r44
          case h44 => (intro W hSW; (try dsimp only at hSW); obtain ⟨s1, s2, s3, s4⟩ := hSW; go_simp <;> (with_reducible rfl))
          try simp only [Act.put, List.setIfInBounds_toArray, List.set_cons_zero, List.set_cons_succ]
          refine wpAnyH_done (by kernel_rfl) ?_ _
          refine NoPanic.normal ?_
          go_wp2_with fail
          go_meet
          exact ⟨rfl, hp6, hr6, hf6⟩
        case rest =>
          obtain ⟨rfl, hp7, hr7, hf7⟩ := hcut
          have hwr7 : Wr wc (some ⟨g8, 0, none⟩) (n + 1) 5 := ((own_wr HB4.out.2.2.1).fr HF5.out.1 (fun g hg => by cases hg; show g8 ≠ w.heap.size; omega)).fr hf7 (fun g hg => by cases hg; show g8 ≠ w1.heap.size; omega)
          have hb7 : Below w.heap.size w wc := ((HB4.out.2.2.2.2.trans (HB4.out.2.2.2.1.mono hws)).trans (HF5.out.1.toBelow (fun k hk => by omega) (by omega))).trans (hf7.toBelow (fun k hk => by omega) (by have := HF5.out.1.size; omega))
          have HC7 := Lib.hid (And.intro hp7 (And.intro hr7 hb7))
          have hdl : D.length ≤ 3 := by rw [HDN.out]; exact hDl
          have HG := Lib.hid hg8.2
          clear hcv1 hcv2 hix0 hix1 hix2 hix3 hp7 hr7 hf7 hb7 cx5 cm5 hst8
          go_wp2
          go_loopw [10] (fun kv wx => ∃ k : Nat, kv = .int .i64 (k : Int) ∧ k ≤ n + 1 ∧ Fr (fun q => q ≠ g8) wc wx ∧ Wr wx (some ⟨g8, 0, none⟩) (n + 1) 5) (fun kv _ => n + 1 - (intOf kv).toNat)
          case atStart => exact ⟨0, rfl, Nat.zero_le _, Fr.refl _ _, hwr7⟩
          case round =>
            clear hwr7
            obtain ⟨k, rfl, hk, hfk, hwk⟩ := hrel
            by_cases hkl : k < n + 1
            · obtain ⟨⟨v0, c0⟩, f0⟩ := hwk.at hkl
              have HFK := Lib.hid (And.intro hfk hwk)
              clear hfk hwk
              go_wp2
              go_roundw
              case rel => exact ⟨k + 1, by go_num, hkl, HFK.out.1.setCell _ _ (fun _ h => h rfl), HFK.out.2.set _ _⟩
              case measure => simp [intOf]; omega
            · have hkl2 : n + 1 ≤ k := by omega
              have hkl3 : (n : Int) + 1 ≤ (k : Int) := by omega
              clear hkl
              have hPj : Pi w w.heap.size w1.heap.size D wr := ⟨HC7.out.2.2.trans (hfk.toBelow (fun q hq => by show q ≠ g8; omega) HC7.out.2.2.size), HC7.out.1.keep hfk (by omega) HG.out, HC7.out.2.1.keep hfk (by omega) HG.out, hdl, hpb⟩
              have HPJ := Lib.hid hPj
              clear hPj hfk hwk
              go_wp2
              go_loopw [11] (fun kv wx => ∃ (k : Nat) (l' : List UInt8), kv = .int .i64 (k : Int) ∧ k ≤ N ∧ Pi w w.heap.size w1.heap.size l' wx) (fun kv _ => N - (intOf kv).toNat)
              case atStart => exact ⟨0, D, rfl, Nat.zero_le _, HPJ.out⟩
              case round =>
                clear HPJ
                obtain ⟨k, l', rfl, hk', hPk⟩ := hrel
                by_cases hkN : k < N
                · obtain ⟨cg, co, rfl, hcc⟩ := HCA.out (by omega)
                  obtain ⟨y, hy⟩ : ∃ y, c[k]? = some y := ⟨_, List.getElem?_eq_getElem (by rw [HN.out]; exact hkN)⟩
                  have hcy := hcc k y hy
                  have c0 : wr.cell? ⟨cg, co + k, none⟩ = some (.int .i64 y) := (World.cell?_of_block (hPk.below.block _ (World.block_lt_of_cell? _ _ hcy))).trans hcy
                  have HPK := Lib.hid hPk
                  by_cases hyi : y = (i : Int)
                  · subst hyi
                    obtain ⟨ES, hES⟩ : ∃ S, (⟨l'.toArray⟩ : ByteArray) = S := ⟨_, rfl⟩
                    have EU := Lib.hid (hES ▸ endU_any w.heap.size l' wr hPk.pc : Calls Tryd.prog 10 #[.pointer (some ⟨w.heap.size, 0, none⟩)] wr fun e w' => e = .returned (.string ES) ∧ Fr (fun k => k ≠ w.heap.size) wr w' ∧ Pc w' w.heap.size [])
                    have HES := Lib.hid hES
                    clear hPk hcc hy hcy hES
                    go_wp2_with (first
                      | (go_at_call 10; (with_reducible refine EU.out.mono ?_); rintro e w8 ⟨rfl, hf8, hp8⟩; have hr8 := HPK.out.pr.fr hf8 (by omega) HPK.out.pc; have ER := Lib.hid (HES.out ▸ endR_any w1.heap.size l' w8 hr8 : Calls Tryd.prog 11 #[.pointer (some ⟨w1.heap.size, 0, none⟩)] w8 fun e w' => e = .returned (.string ES) ∧ Fr (fun k => k ≠ w1.heap.size) w8 w' ∧ PcR w' w1.heap.size []))
                      | (go_at_call 11; (with_reducible refine ER.out.mono ?_); rintro e w9 ⟨rfl, hf9, hr9⟩; have hp9 := hp8.frR hf9 (by omega) hr8; have HE9 : Hid (Calls Tryd.prog 9 #[.pointer (some ⟨w.heap.size, 0, none⟩)] w9 fun e w' => e = .returned (.int .i64 0) ∧ w9 = w') := Lib.hid (heldU_any w.heap.size [] w9 hp9))
                      | (go_at_call 9; (with_reducible refine HE9.out.mono ?_); rintro e w9' ⟨rfl, rfl⟩))
                    go_roundw
                    case rel =>
                      have s8 := hf8.size
                      have sk := HPK.out.below.size
                      exact ⟨k + 1, [], by go_num, hkN, (HPK.out.below.trans (hf8.toBelow (fun q hq => by show q ≠ w.heap.size; omega) sk)).trans (hf9.toBelow (fun q hq => by show q ≠ w1.heap.size; omega) (by omega)), hp9, hr9, by simp, hpb⟩
                    case measure => simp [intOf]; omega
                  · have hyb : (y == (i : Int)) = false := by simpa using hyi
                    clear hPk hcc hy hcy
                    go_wp2
                    go_roundw
                    case rel => exact ⟨k + 1, l', by go_num, hkN, HPK.out⟩
                    case measure => simp [intOf]; omega
                · obtain rfl : k = N := by omega
                  have HPK := Lib.hid hPk
                  clear hPk
                  go_wp2
                  go_roundw
                  case rel => exact ⟨i + 1, l', by go_num, hlt, HPK.out⟩
                  case measure => simp [intOf]; omega
    · obtain rfl : i = M := by omega
      obtain ⟨ES, hES⟩ : ∃ S, (⟨l.toArray⟩ : ByteArray) = S := ⟨_, rfl⟩
      have hpb := hPi.hp
      have EU := Lib.hid (hES ▸ endU_any w.heap.size l wr hPi.pc : Calls Tryd.prog 10 #[.pointer (some ⟨w.heap.size, 0, none⟩)] wr fun e w' => e = .returned (.string ES) ∧ Fr (fun k => k ≠ w.heap.size) wr w' ∧ Pc w' w.heap.size [])
      have HES := Lib.hid hES
      have HPK := Lib.hid hPi
      clear hPi hES
      go_wp2_with (first
        | (go_at_call 10; (with_reducible refine EU.out.mono ?_); rintro e w8 ⟨rfl, hf8, hp8⟩; have hr8 := HPK.out.pr.fr hf8 (by omega) HPK.out.pc; have ER := Lib.hid (HES.out ▸ endR_any w1.heap.size l w8 hr8 : Calls Tryd.prog 11 #[.pointer (some ⟨w1.heap.size, 0, none⟩)] w8 fun e w' => e = .returned (.string ES) ∧ Fr (fun k => k ≠ w1.heap.size) w8 w' ∧ PcR w' w1.heap.size []))
        | (go_at_call 11; (with_reducible refine ER.out.mono ?_); rintro e w9 ⟨rfl, hf9, hr9⟩; have hp9 := hp8.frR hf9 (by omega) hr8; have HE9 : Hid (Calls Tryd.prog 9 #[.pointer (some ⟨w.heap.size, 0, none⟩)] w9 fun e w' => e = .returned (.int .i64 0) ∧ w9 = w') := Lib.hid (heldU_any w.heap.size [] w9 hp9))
        | (go_at_call 9; (with_reducible refine HE9.out.mono ?_); rintro e w9' ⟨rfl, rfl⟩)
        | (go_at_call 12; (with_reducible refine (head_any _).mono ?_); rintro e w10 ⟨rfl, hb10⟩))
      go_ret
      have s8 := hf8.size
      have sk := HPK.out.below.size
      have k9 := (HPK.out.below.trans (hf8.toBelow (fun q hq => by show q ≠ w.heap.size; omega) sk)).trans (hf9.toBelow (fun q hq => by show q ≠ w1.heap.size; omega) (by omega))
      exact ⟨rfl, k9.trans (hb10.mono k9.size)⟩
end Go.Proofs.YtokbmihjpllgpaaDoor
