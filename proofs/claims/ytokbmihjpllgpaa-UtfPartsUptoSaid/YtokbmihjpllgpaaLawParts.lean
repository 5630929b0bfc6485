/- The law of the parts. -/
import Derived.Test.YtokbmihjpllgpaaLawRound
import Derived.Test.YtokbmihjpllgpaaLawCutOf
import Derived.Lib.MapLaws
import Derived.Laws.DeepStrings4
set_option linter.unusedVariables false
namespace Go.Proofs.Ytokbmihjpllgpaa
open Go.RowKit Go.Shelf Go.Lib Go.BigFrame
attribute [local go_sem] Oper.semAt_some

theorem dec_decodeL (l : List UInt8) (h : l ≠ []) : Lib.decodeL l = U.dec l := by
  have := U.decode_eq ⟨l.toArray⟩ 0 (by have := List.length_pos_iff.2 h; rw [U.size_eq]; simpa using this)
  simp only [List.drop_zero] at this
  exact this
/-- A good sign is its rune's text. -/
theorem good_text (l : List UInt8) (h : l ≠ []) (hb : U.isBad (U.dec l) = false) : Lib.encodeRune ((U.dec l).1 : Int) = l.take (U.dec l).2 := by
  rw [← dec_decodeL l h] at hb ⊢
  refine Lib.encode_decode l h fun hv => ?_
  unfold U.isBad at hb
  rw [hv.1, hv.2] at hb
  cases hb
/-- The k-th sign: where it begins, what it is. -/
theorem sign_is (l : List UInt8) (k : Nat) (x : U.Sg) (hx : (U.signs l)[k]? = some x) :
    x.at_ = U.wsum ((U.toks l).take k) ∧ l.drop x.at_ ≠ [] ∧ U.dec (l.drop x.at_) = (x.rune, x.len) ∧ x.bad = U.isBad (x.rune, x.len) := by
  have ha := U.put_at_take (U.toks l) 0 k x hx
  rw [Nat.zero_add, U.usum_one'] at ha
  have h1 : (U.toks l)[k]? = some (tk x) := by rw [← tk_signs, List.getElem?_map, hx]; rfl
  have hk : k < (U.toks l).length := (List.getElem?_eq_some_iff.1 h1).1
  have hd : (U.toks l).drop k = tk x :: (U.toks l).drop (k + 1) := by
    obtain ⟨hk, he⟩ := List.getElem?_eq_some_iff.1 h1
    rw [← he]; exact List.drop_eq_getElem_cons hk
  have hc := (U.toks_cut ((U.toks l).drop k) ((U.toks l).take k) l (List.take_append_drop _ _).symm).2
  rw [← ha, hd] at hc
  have hne : l.drop x.at_ ≠ [] := fun e => by rw [e, U.toks_nil] at hc; cases hc
  rw [U.toks_ne _ hne] at hc
  exact ⟨ha, hne, (List.cons.inj hc).1, (U.put_mem (List.mem_of_getElem? hx)).2⟩

/-- The places and the units of UTF-16 of the first k signs. -/
def atK (s : ByteArray) (k : Nat) : Nat := U.wsum ((U.toks s.data.toList).take k)
def unK (s : ByteArray) (k : Nat) : Nat := U.usum 3 ((U.toks s.data.toList).take k)
theorem part_facts (s : ByteArray) (k : Nat) (x : U.Sg) (hx : (U.signs s.data.toList)[k]? = some x) :
    x.at_ = atK s k ∧ atK s (k + 1) = atK s k + x.len ∧ unK s (k + 1) = unK s k + U.un x.rune ∧ 1 ≤ x.len ∧ x.len ≤ 4 ∧ atK s k + x.len ≤ s.size ∧ x.rune ≤ 1114111 ∧
    (x.bad = true → x.len = 1 ∧ x.rune = 65533 ∧ 128 ≤ U.by_ (s.data.toList.drop (atK s k)) 0) ∧ (x.bad = false → s.extract (atK s k) (atK s k + x.len) = ⟨(textB [(x.rune : Int)]).toArray⟩) := by
  obtain ⟨h1, h2, h3, h4⟩ := sign_is _ k x hx
  have h5 : (U.toks s.data.toList)[k]? = some (tk x) := by rw [← tk_signs, List.getElem?_map, hx]; rfl
  have ht : (U.toks s.data.toList).take (k + 1) = (U.toks s.data.toList).take k ++ [tk x] := by rw [List.take_add_one, h5]; rfl
  have hd := U.dec_facts _ h2
  rw [h3] at hd
  have ha : x.at_ = atK s k := h1
  rw [ha] at h2 h3 hd
  rw [List.length_drop, ← U.size_eq] at hd
  refine ⟨ha, ?_, ?_, hd.1, hd.2.1, by omega, hd.2.2.2.1, fun hb => ?_, fun hb => ?_⟩
  · unfold atK; rw [ht, U.wsum_append]; simp [U.wsum, tk]
  · unfold unK; rw [ht, U.usum_append]; simp [U.usum, U.szu, tk]
  · rw [h4] at hb
    unfold U.isBad at hb
    simp at hb
    refine ⟨hb.2, hb.1, ?_⟩
    rcases U.dec_bad _ (by rw [h3]; exact hb.1) with ⟨q, _⟩ | ⟨q, _, q3⟩
    · rw [h3] at q; omega
    · exact q3
  · rw [h4, ← h3] at hb
    have := good_text _ h2 hb
    rw [h3] at this
    apply ba_eq
    rw [ext_list, Nat.add_sub_cancel_left]
    simp [textB, this]

theorem unK_le (s : ByteArray) (k : Nat) : unK s k ≤ 2 * k := by
  unfold unK
  have h : ∀ l : List U.Tk, U.usum 3 l ≤ 2 * l.length := by
    intro l
    induction l with
    | nil => simp [U.usum]
    | cons x l ih => rw [U.usum_cons, List.length_cons]; have := (un_le x.1).2; simp only [U.szu]; simp; omega
  have := h ((U.toks s.data.toList).take k)
  rw [List.length_take] at this
  omega
theorem part_end (s : ByteArray) : atK s (U.signs s.data.toList).length = s.size ∧ unK s (U.signs s.data.toList).length = U.usum 3 (U.toks s.data.toList) := by
  unfold atK unK
  rw [← toks_signs, List.take_length, U.wsum_toks, U.size_eq]
  exact ⟨rfl, rfl⟩

/-- What lay in the block but one stays behind a call. -/
theorem x_cell {W w5 : World} {cs : Array Value} {t : TypeId} {o : Obj} (hb : Below ((W.alloc (.cells cs t)).alloc o).heap.size ((W.alloc (.cells cs t)).alloc o) w5) (j : Nat) (v : Value) (h : cs[j]? = some v) : w5.cell? ⟨W.heap.size, j, none⟩ = some v :=
  (World.cell?_of_block (hb.block W.heap.size (by simp; omega))).trans (cell_new2 W cs t o j v h)
theorem ext_get0 (s : ByteArray) (a : Nat) (h : 0 < (s.extract a (a + 1)).size) : ((s.extract a (a + 1))[0]'h).toNat = U.by_ (s.data.toList.drop a) 0 := by
  have e := extract_list s a (a + 1)
  have h1 : ((s.extract a (a + 1))[0]'h) = (s.extract a (a + 1)).data.toList.getD 0 0 := by
    rw [List.getD_eq_getElem?_getD, List.getElem?_eq_getElem (by rw [← U.size_eq]; exact h)]; rfl
  rw [h1, e]
  unfold U.by_
  congr 1
  rw [List.getD_eq_getElem?_getD, List.getD_eq_getElem?_getD, List.getElem?_drop, List.getElem?_drop, List.getElem?_take, if_pos (by omega)]

set_option maxRecDepth 1000000 in
set_option maxHeartbeats 4000000 in
theorem utfParts_law (s : ByteArray) (hs : s.size ≤ 1048576) (w : World) : Calls Try.prog 8 #[.string s] w fun e w' => e = .returned (.bool true) ∧ Below w.heap.size w w' := by
  have hll := signs_len_le s
  have AL := fun w => all_any s w (by omega)
  have HL : U.put 0 (U.toks (s.data.toList.drop 0)) = U.signs s.data.toList := rfl
  obtain ⟨l, hl⟩ : ∃ l, U.signs s.data.toList = l := ⟨_, rfl⟩
  rw [hl] at AL hll HL
  have FK := part_facts s
  have F0 := Lib.hid (part_end s)
  have CO := fun w => count_any s w hs
  have PA := fun w => pairs_utf s w (by omega)
  rw [toks_signs] at CO
  rw [hl] at FK F0 CO
  have FK := Lib.hid FK
  have CO := Lib.hid CO
  have PA := Lib.hid PA
  have AL := Lib.hid AL
  have HL := Lib.hid HL
  have HLS := Lib.hid hl
  clear hl
  go_enter Try.func8, Try.ntmps8
  go_wp2_with (first
    | (go_at_call 19; refine (head_any _).mono ?_; rintro e w1 ⟨rfl, hb1⟩)
    | (go_at_call 21; ((with_reducible refine (AL.out _).mono ?_); rintro e w2 ⟨v2, rfl, hb2, hr2⟩; obtain ⟨A, cp, rfl, hA⟩ := own_form hr2)))
  have hB0 : Below w.heap.size w w2 := bst hb1 hb2
  go_loopw [6] (fun i wr => ∃ pos k : Nat, wr = w2.iter s pos ∧ i = .int .i64 (k : Int) ∧ k ≤ pos ∧ pos ≤ s.size ∧ k ≤ l.length ∧ Hid (U.put pos (U.toks (s.data.toList.drop pos)) = l.drop k)) (fun _ wr => s.size - wr.iterPos w2.heap.size)
  case atStart => exact ⟨0, 0, rfl, rfl, Nat.le_refl _, Nat.zero_le _, Nat.zero_le _, HL⟩
  case round =>
    obtain ⟨pos, k, rfl, rfl, hkp, hps, hkl, hH⟩ := hrel
    by_cases hp : pos < s.size
    · have hnx : ∀ ty, (Instr.next (.pointer (some ⟨w2.heap.size, 0, none⟩)) true ty).run Try.prog (w2.iter s pos) = _ := fun ty => run_next_any w2 s pos ty hp
      have hd := decode_facts hp
      have hq := hH.out
      rw [toks_at hp] at hq
      obtain ⟨c, wd, hdec⟩ : ∃ c wd, Utf8.decode s pos = (c, wd) := ⟨_, _, rfl⟩
      rw [hdec] at hd hq hnx
      simp only [U.put] at hd hq hnx
      have hlt : k < l.length := by
        have := congrArg List.length hq
        rw [List.length_cons, List.length_drop] at this
        omega
      obtain ⟨g, rfl⟩ := hA (by omega)
      have hx : l[k]? = some ⟨pos, wd, c, U.isBad (c, wd)⟩ := by
        rw [List.drop_eq_getElem_cons hlt] at hq
        rw [List.getElem?_eq_getElem hlt, (List.cons.inj hq).1]
      have hq2 := Lib.hid (show U.put (pos + wd) (U.toks (s.data.toList.drop (pos + wd))) = l.drop (k + 1) by
        rw [List.drop_eq_getElem_cons hlt] at hq; exact (List.cons.inj hq).2)
      have hBi : Below w2.heap.size w2 (w2.iter s (pos + wd)) := (Below.refl _ _).alloc (Nat.le_refl _) _
      have hri : (w2.iter s (pos + wd)).ownsRow w1.heap.size 40 4 (.slice (some ⟨g, 0, none⟩) l.length cp) l.length (cellsS l) := own_below hr2 hBi
      have p0 : (w2.iter s (pos + wd)).cell? ⟨g, k * 4, none⟩ = some (.int .i64 (pos : Int)) := (cellsS_at hri hx).1
      have p2 : (w2.iter s (pos + wd)).cell? ⟨g, k * 4 + 2, none⟩ = some (.int .i32 (c : Int)) := (cellsS_at hri hx).2.2.1
      have hd1 := hd.1
      have hd2 := hd.2.2.1
      have H2 := hd.2.2.2
      clear hd hq hx hdec hH hr2 hA hri hBi
      go_wp2
      go_roundw
      case rel => exact ⟨pos + wd, k + 1, rfl, by go_num, by omega, hd2, hlt, hq2⟩
      case measure => simp; omega
    · have hnx : ∀ ty, (Instr.next (.pointer (some ⟨w2.heap.size, 0, none⟩)) true ty).run Try.prog (w2.iter s pos) = _ := fun ty => run_next_end w2 s pos ty hp
      have hkl' : k = l.length := by
        have := congrArg List.length hH.out
        rw [toks_end hp] at this
        simp [U.put] at this
        omega
      subst hkl'
      obtain ⟨W1, hW1⟩ : ∃ W1, w2.iter s pos = W1 := ⟨_, rfl⟩
      have hBi : Below w2.heap.size w2 W1 := by rw [← hW1]; exact (Below.refl _ _).alloc (Nat.le_refl _) _
      have hr1 := own_below hr2 hBi
      have hB1 : Below w.heap.size w W1 := bst hB0 hBi
      rw [hW1] at hnx ⊢
      clear hW1 hH
      go_wp2
      go_loopw [4, 5, 9] (fun at_ pr i wr => ∃ k : Nat, i = .int .i64 (k : Int) ∧ at_ = .int .i64 (atK s k : Int) ∧ pr = .int .i64 (unK s k : Int) ∧ k ≤ l.length ∧ Below w.heap.size w wr ∧ Below W1.heap.size W1 wr) (fun _ _ i _ => l.length - (intOf i).toNat)
      case atStart => exact ⟨0, rfl, rfl, rfl, Nat.zero_le _, hB1, Below.refl _ _⟩
      case round =>
        obtain ⟨k, rfl, rfl, rfl, hk, hB, hB1'⟩ := hrel
        by_cases hlt : k < l.length
        · obtain ⟨g, rfl⟩ := hA (by omega)
          obtain ⟨x, hx⟩ : ∃ s, l[k]? = some s := ⟨_, List.getElem?_eq_getElem hlt⟩
          obtain ⟨f1, f2, f3, f4, f5, f6, f7, f8, f9⟩ := FK.out k x hx
          have hun := unK_le s k
          have Q := fun o => cellsS_at (own_below hr1 (hB1'.alloc hB1'.size o)) hx
          have R := cellsS_at (own_below hr1 hB1') hx
          have q0 := R.1
          have q1 := R.2.1
          have q2 := R.2.2.1
          have q3 := R.2.2.2
          rw [f1] at q0
          have hunc := un_le x.rune
          obtain ⟨a, ha⟩ : ∃ a, atK s k = a := ⟨_, rfl⟩
          obtain ⟨u, hu⟩ : ∃ a, unK s k = a := ⟨_, rfl⟩
          rw [ha] at f2 f6 f8 f9 q0 ⊢
          rw [hu] at f3 hun ⊢
          have F2 := Lib.hid f2
          have F3 := Lib.hid f3
          obtain ⟨bd, hbd⟩ : ∃ b, x.bad = b := ⟨_, rfl⟩
          rw [hbd] at q3 f8 f9
          clear f1 f2 f3 Q R hx hr1 hA ha hu hbd hr2 hnx
          have hsl : ∀ W : World, (Instr.slice 9 (.string s) (some (.int .i64 (a : Int))) (some (.int .i64 ((a : Int) + (x.len : Int)))) none).run Try.prog W = .ok (.string (s.extract a (a + x.len))) W := fun W => by
            rw [run_slice_string_if W 9 s .i64 .i64 (a : Int) ((a : Int) + (x.len : Int)) Try.underlying9, if_pos ⟨by omega, by omega⟩, if_pos ⟨by omega, by omega⟩, show (a : Int).toNat = a by omega, show ((a : Int) + (x.len : Int)).toNat = a + x.len by omega]
          cases bd
          · have he := f9 rfl
            obtain ⟨T, hT⟩ : ∃ T, (⟨(textB [(x.rune : Int)]).toArray⟩ : ByteArray) = T := ⟨_, rfl⟩
            have TA := fun W g cap (h : W.cell? ⟨g, 0, none⟩ = some (.int .i32 (x.rune : Int))) => textA_utf [(x.rune : Int)] W (.slice (some ⟨g, 0, none⟩) 1 cap) (.inr ⟨_, cap, rfl, fun j z hz => by
              have hj : j = 0 := by have := (List.getElem?_eq_some_iff.1 hz).1; simp at this; omega
              subst hj
              simp at hz
              subst hz
              rw [Go.WideShapes.add_plain]
              exact h⟩)
            rw [hT] at he TA
            rw [he] at hsl
            clear he
            have TA := Lib.hid TA
            have hcn : ∀ X : Obj, ((wr.alloc X).alloc (.cells #[.int .i32 (x.rune : Int)] 21)).cell? ⟨wr.heap.size + 1, 0, none⟩ = some (.int .i32 (x.rune : Int)) := fun X => by have := (cell_new (wr.alloc X) (.int .i32 (x.rune : Int)) 21).1; rwa [World.size_alloc] at this
            have hcn := Lib.hid hcn
            clear f8 f9 hT
            by_cases hc : x.rune < 65536
            · have hcI : ¬ (65536 : Int) ≤ (x.rune : Int) := by omega
              have hu1 : U.un x.rune = 1 := by unfold U.un; rw [if_pos hc]
              rw [hu1] at F3
              go_wp2_with (go_at_call 33; (with_reducible refine (TA.out _ _ _ (hcn.out _)).mono ?_); rintro e w5 ⟨rfl, hb5⟩; have y1 : w5.cell? ⟨wr.heap.size, 1, none⟩ = some (.int .i64 (x.len : Int)) := x_cell hb5 1 _ rfl; have y2 : w5.cell? ⟨wr.heap.size, 2, none⟩ = some (.int .i32 (x.rune : Int)) := x_cell hb5 2 _ rfl)
              go_roundw
              case rel => exact ⟨k + 1, by go_num, by rw [F2.out]; go_num, by rw [F3.out]; go_num, hlt, bst ((hB.alloc hB.size _).alloc (by simp; have := hB.size; omega) _) hb5, bst ((hB1'.alloc hB1'.size _).alloc (by simp; have := hB1'.size; omega) _) hb5⟩
              case measure => simp [intOf]; omega
            · have hcI : (65536 : Int) ≤ (x.rune : Int) := by omega
              have hu1 : U.un x.rune = 2 := by unfold U.un; rw [if_neg hc]
              rw [hu1] at F3
              go_wp2_with (go_at_call 33; (with_reducible refine (TA.out _ _ _ (hcn.out _)).mono ?_); rintro e w5 ⟨rfl, hb5⟩; have y1 : w5.cell? ⟨wr.heap.size, 1, none⟩ = some (.int .i64 (x.len : Int)) := x_cell hb5 1 _ rfl; have y2 : w5.cell? ⟨wr.heap.size, 2, none⟩ = some (.int .i32 (x.rune : Int)) := x_cell hb5 2 _ rfl)
              go_roundw
              case rel => exact ⟨k + 1, by go_num, by rw [F2.out]; go_num, by rw [F3.out]; go_num, hlt, bst ((hB.alloc hB.size _).alloc (by simp; have := hB.size; omega) _) hb5, bst ((hB1'.alloc hB1'.size _).alloc (by simp; have := hB1'.size; omega) _) hb5⟩
              case measure => simp [intOf]; omega
          · obtain ⟨f8a, f8b, f8c⟩ := f8 rfl
            have hu1 : U.un x.rune = 1 := by rw [f8b]; rfl
            rw [hu1] at F3
            obtain ⟨O, hO⟩ : ∃ O, s.extract a (a + x.len) = O := ⟨_, rfl⟩
            rw [hO] at hsl
            have hOs : O.size = 1 := by rw [← hO, ext_size s _ _ f6, f8a]; omega
            rw [f8a] at q1 hsl F2 f6
            rw [f8b] at q2
            clear hO f9 f8 f8a f8b f7 f4 f5
            go_wp2
            · exact ⟨⟨k + 1, by go_num, by rw [F2.out]; go_num, by rw [F3.out]; go_num, hlt, hB.alloc hB.size _, hB1'.alloc hB1'.size _⟩, by simp [intOf]; omega⟩
            · exfalso
              have hh : ((s.extract a (a + 1))[0]'(by rw [ext_size s _ _ f6]; omega)).toNat < 128 := by exact_mod_cast ‹(((s.extract a (a + 1))[0]'_).toNat : Int) < 128›
              rw [ext_get0] at hh
              omega
        · obtain rfl : k = l.length := by omega
          rw [F0.out.1, F0.out.2]
          go_wp2_with (first
            | (go_at_call 19; refine (head_any _).mono ?_; rintro e w13 ⟨rfl, hb13⟩)
            | (go_at_call 23; ((with_reducible refine (CO.out _).mono ?_); rintro e w14 ⟨rfl, hb14⟩))
            | (go_at_call 25; ((with_reducible refine (PA.out _).mono ?_); rintro e w15 ⟨rfl, hb15⟩)))
          go_ret
          exact ⟨rfl, bst (bst (bst hB hb14) hb15) hb13⟩
end Go.Proofs.Ytokbmihjpllgpaa
