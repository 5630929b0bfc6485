/- strings.IndexAny at the two ends of lines: the shelf's contract for long texts, laid at this program; an own walk for short ones. -/
import Derived.Test.YtokbmihjpllgpaaBase
import Derived.Test.YtokbmihjpllgpaaLinesP
import Derived.Shelf.Strings.IndexAnyAll
import Derived.Shelf.RegionOpenPlain
import Derived.WalkMore
set_option linter.unusedVariables false
set_option linter.unusedSimpArgs false
namespace Go.Proofs.Ytokbmihjpllgpaa
open Go.Shelf Go.RowKit Go.Lib
attribute [local go_sem] Oper.semAt_some
def layIndexAny_ren : Go.Shelf.Ren := ⟨fun | 119 => 78 | 137 => 77 | 152 => 72 | 153 => 64 | 217 => 81 | 224 => 79 | 225 => 80 | 226 => 73 | 227 => 74 | 228 => 75 | 266 => 82 | n => n, fun | 0 => 0 | 3 => 3 | 4 => 4 | 5 => 5 | 9 => 9 | 21 => 21 | 46 => 96 | 116 => 89 | 117 => 90 | 124 => 97 | n => n, fun | n => n⟩
theorem layIndexAny : Lays.n153 Try.prog layIndexAny_ren where
  mixed := by kernel_rfl
  f119 := Try.func78.trans (congrArg some (by kernel_rfl))
  f137 := Try.func77.trans (congrArg some (by kernel_rfl))
  f152 := Try.func72.trans (congrArg some (by kernel_rfl))
  f153 := Try.func64.trans (congrArg some (by kernel_rfl))
  f217 := Try.func81.trans (congrArg some (by kernel_rfl))
  f224 := Try.func79.trans (congrArg some (by kernel_rfl))
  f225 := Try.func80.trans (congrArg some (by kernel_rfl))
  f226 := Try.func73.trans (congrArg some (by kernel_rfl))
  f227 := Try.func74.trans (congrArg some (by kernel_rfl))
  f228 := Try.func75.trans (congrArg some (by kernel_rfl))
  f266 := Try.func82.trans (congrArg some (by kernel_rfl))
  t0 := Try.underlying0
  a0 := Try.isAgg0
  z0 := Try.sizeOf0
  v0 := Try.zeroValue0
  t3 := Try.underlying3
  a3 := Try.isAgg3
  z3 := Try.sizeOf3
  v3 := Try.zeroValue3
  t4 := Try.underlying4
  a4 := Try.isAgg4
  z4 := Try.sizeOf4
  v4 := Try.zeroValue4
  t5 := Try.underlying5
  a5 := Try.isAgg5
  z5 := Try.sizeOf5
  v5 := Try.zeroValue5
  t9 := Try.underlying9
  a9 := Try.isAgg9
  z9 := Try.sizeOf9
  v9 := Try.zeroValue9
  t21 := Try.underlying21
  a21 := Try.isAgg21
  z21 := Try.sizeOf21
  v21 := Try.zeroValue21
  t46 := Try.underlying96
  a46 := Try.isAgg96
  z46 := Try.sizeOf96
  v46 := Try.zeroValue96
  t116 := Try.underlying89
  a116 := Try.isAgg89
  z116 := Try.sizeOf89
  t117 := Try.underlying90
  a117 := Try.isAgg90
  z117 := Try.sizeOf90
  v117 := Try.zeroValue90
  t124 := Try.underlying97
  a124 := Try.isAgg97
  z124 := Try.sizeOf97
  v124 := Try.zeroValue97
theorem fIdx : layIndexAny_ren.f 153 = 64 := by kernel_rfl
theorem fIdxR : layIndexAny_ren.f 152 = 72 := by kernel_rfl
theorem fIdxB : layIndexAny_ren.f 137 = 77 := by kernel_rfl
theorem infoSet : (Try.prog.info? (layIndexAny_ren.t 116)).map (fun i => (i.zero, i.size)) = some (some (.agg (Array.replicate 256 (.bool false))), 256) := by kernel_rfl

/-- The two ends of a line. -/
def nlcr : ByteArray := ⟨#[10, 13]⟩
theorem indexAny_far : ∀ l : List UInt8, Lib.indexAny l [10, 13] = if U.far l < l.length then (U.far l : Int) else -1 := by
  intro l
  by_cases h : U.far l < l.length
  · rw [if_pos h]
    have hx : l[U.far l]? = some (l[U.far l]) := List.getElem?_eq_getElem h
    refine Lib.indexAny_hit (fun j b hj hb => ?_) hx ?_
    · have := U.far_not l j hj
      have hb2 : U.by_ l j = b.toNat := by unfold U.by_; rw [List.getD_eq_getElem?_getD, hb]; rfl
      rw [hb2] at this
      simp only [U.isEol, Bool.or_eq_false_iff, beq_eq_false_iff_ne] at this
      simp only [List.contains_cons, List.contains_nil, Bool.or_false, Bool.or_eq_false_iff, beq_eq_false_iff_ne]
      exact ⟨fun e => this.1 (by rw [e]; rfl), fun e => this.2 (by rw [e]; rfl)⟩
    · have := U.far_at l h
      have hb2 : U.by_ l (U.far l) = (l[U.far l]).toNat := by unfold U.by_; rw [List.getD_eq_getElem?_getD, hx]; rfl
      rw [hb2] at this
      simp only [U.isEol, Bool.or_eq_true, beq_iff_eq] at this
      simp only [List.contains_cons, List.contains_nil, Bool.or_false, Bool.or_eq_true, beq_iff_eq]
      exact this.imp (fun e => UInt8.toNat_inj.1 e) (fun e => UInt8.toNat_inj.1 e)
  · rw [if_neg h]
    have hl : U.far l = l.length := by have := U.far_le l; omega
    refine Lib.indexAny_none (fun j b hj hb => ?_)
    have := U.far_not l j (by omega)
    have hb2 : U.by_ l j = b.toNat := by unfold U.by_; rw [List.getD_eq_getElem?_getD, hb]; rfl
    rw [hb2] at this
    simp only [U.isEol, Bool.or_eq_false_iff, beq_eq_false_iff_ne] at this
    simp only [List.contains_cons, List.contains_nil, Bool.or_false, Bool.or_eq_false_iff, beq_eq_false_iff_ne]
    exact ⟨fun e => this.1 (by rw [e]; rfl), fun e => this.2 (by rw [e]; rfl)⟩

theorem idx_long (s : ByteArray) (w : World) (h8 : 8 < s.size) (hs : s.size ≤ 4194304) :
    Calls Try.prog 64 #[.string s, .string nlcr] w fun e w' => e = .returned (.int .i64 (if U.far s.data.toList < s.size then (U.far s.data.toList : Int) else -1)) ∧ Below w.heap.size w w' := by
  have h := Any.strings_IndexAny_long layIndexAny (zero_of_info infoSet).1 (zero_of_info infoSet).2 s nlcr w (by decide) h8 (by omega) (by decide) (fun j b hb => by
    have hm : b ∈ ([10, 13] : List UInt8) := List.mem_of_getElem? hb
    simp at hm
    rcases hm with rfl | rfl <;> decide)
  rw [fIdx] at h
  refine h.mono fun e w' ⟨h1, h2⟩ => ⟨?_, ?_⟩
  · rw [h1, U.size_eq, ← indexAny_far]; rfl
  · rw [h2]; exact ((Below.refl _ _).alloc (Nat.le_refl _) _).alloc (by simp) _

/-- strings.IndexRune in these two, of an ASCII rune. -/
theorem idxR_ascii (c : Nat) (w : World) (hc : c < 128) :
    Calls Try.prog 72 #[.string nlcr, .int .i32 (c : Int)] w fun e w' => ∃ z : Int, e = .returned (.int .i64 z) ∧ (0 ≤ z ↔ U.isEol c = true) ∧ Below w.heap.size w w' := by
  have h := Any.strings_IndexRune_ascii { layIndexAny with } nlcr (c : Int) w (by omega) (by omega)
  rw [fIdxR] at h
  refine h.mono fun e w' ⟨h1, h2⟩ => ⟨_, h1, ?_, h2 ▸ Below.refl _ _⟩
  have e1 : ((c : Int)).toNat.toUInt8 = UInt8.ofNat c := by simp
  rw [e1, ← decide_eq_true_iff (p := 0 ≤ _), ← Lib.contains_iff_indexByte]
  show (List.contains ([10, 13] : List UInt8) (UInt8.ofNat c) = true) ↔ _
  simp only [List.contains_cons, List.contains_nil, Bool.or_false, Bool.or_eq_true, beq_iff_eq, U.isEol]
  have ht : (UInt8.ofNat c).toNat = c := by simp; omega
  constructor
  · rintro (h | h)
    · left; rw [← ht, h]; rfl
    · right; rw [← ht, h]; rfl
  · rintro (h | h)
    · left; rw [h]; rfl
    · right; rw [h]; rfl

theorem enc_str (r : Int) (w : World) : (convert 21 9 (.int .i32 r)).run Try.prog w = .ok (.string (Utf8.encode r)) w := by
  simp [convert, run_underlying Try.underlying21, run_underlying Try.underlying9, Conv.intToString]
/-- What is encoded beyond ASCII: two bytes at least, none of them one. -/
theorem enc_more (c : Nat) (h0 : 128 ≤ c) (h1 : c ≤ 1114111) (h2 : c < 55296 ∨ 57344 ≤ c) : 2 ≤ (Utf8.encode c).size ∧ (Utf8.encode c).size ≤ 4 ∧ 128 ≤ U.by_ (Utf8.encode c).data.toList ((Utf8.encode c).size - 1) := by
  have hv : Utf8.valid (c : Int) = true := by unfold Utf8.valid; simp; omega
  unfold Utf8.encode
  simp only [hv, if_true, Int.toNat_natCast]
  have hm : ∀ x, 128 ≤ (UInt8.ofNat (128 + x % 64)).toNat := fun x => by simp; omega
  rw [if_neg (by omega)]
  split
  · exact ⟨by show 2 ≤ 2; omega, by show 2 ≤ 4; omega, hm _⟩
  · split
    · exact ⟨by show 2 ≤ 3; omega, by show 3 ≤ 4; omega, hm _⟩
    · exact ⟨by show 2 ≤ 4; omega, by show 4 ≤ 4; omega, hm _⟩
theorem ix_by (T : ByteArray) (k : Nat) (h : k < T.size) : ∀ w, (Instr.index 9 (.string T) (.int .i64 (k : Int))).run Try.prog w = .ok (.int .u8 (U.by_ T.data.toList k : Int)) w := fun w => by
  rw [run_index_string w _ T _ _ Try.underlying9, dif_pos ⟨by omega, by omega⟩]
  congr 3
  unfold U.by_
  rw [List.getD_eq_getElem?_getD, List.getElem?_eq_getElem (by rw [← U.size_eq]; exact h)]
  rfl

set_option maxRecDepth 1000000 in
set_option maxHeartbeats 2000000 in
theorem validRune_any (c : Nat) (w : World) (h1 : c ≤ 1114111) (h2 : c < 55296 ∨ 57344 ≤ c) : Calls Try.prog 78 #[.int .i32 (c : Int)] w fun e w' => e = .returned (.bool true) ∧ w = w' := by
  obtain ⟨z, hz⟩ : ∃ z : Int, (c : Int) = z := ⟨_, rfl⟩
  have q1 : z ≤ 1114111 := by omega
  have q0 : 0 ≤ z := by omega
  have q2 : z < 55296 ∨ 57343 < z := by omega
  rw [hz]
  clear hz h1 h2
  rcases q2 with h2 | h2
  · go_enter Try.func78, Try.ntmps78
    go_wp2
    all_goals (go_ret; exact ⟨rfl, rfl⟩)
  · have h5 : ¬ z < 55296 := by omega
    go_enter Try.func78, Try.ntmps78
    go_wp2
    all_goals (go_ret; exact ⟨rfl, rfl⟩)

set_option maxRecDepth 1000000 in
set_option maxHeartbeats 4000000 in
theorem idxR_more (c : Nat) (w : World) (h0 : 128 ≤ c) (h1 : c ≤ 1114111) (h2 : c < 55296 ∨ 57344 ≤ c) (h3 : c ≠ 65533) :
    Calls Try.prog 72 #[.string nlcr, .int .i32 (c : Int)] w fun e w' => e = .returned (.int .i64 (-1)) ∧ Below w.heap.size w w' := by
  obtain ⟨e1, e2, e3⟩ := enc_more c h0 h1 h2
  have hes := enc_str (c : Int)
  obtain ⟨E, hE⟩ : ∃ E, Utf8.encode (c : Int) = E := ⟨_, rfl⟩
  rw [hE] at e1 e2 e3 hes
  have VR := Lib.hid (fun w => validRune_any c w h1 h2)
  have IB := Lib.hid (fun (s : ByteArray) (x : Int) w => by have := Any.strings_IndexByte { layIndexAny with } s x w; rw [fIdxB] at this; exact this)
  have hn : ((c : Int) == 65533) = false := by rw [beq_eq_false_iff_ne]; omega
  have hmx : Try.prog.follows .mixedOrders = true := by kernel_rfl
  obtain ⟨Z, hZ⟩ : ∃ Z, E.size = Z := ⟨_, rfl⟩
  have hix := ix_by E (Z - 1) (by omega)
  rw [hZ] at e1 e2 e3
  have hj : ((Z - 1 : Nat) : Int) = (Z : Int) - 1 := by omega
  rw [hj] at hix
  obtain ⟨x, hx⟩ : ∃ x, U.by_ E.data.toList (Z - 1) = x := ⟨_, rfl⟩
  rw [hx] at hix e3
  unfold nlcr
  clear hE hx
  by_cases hz2 : Z = 2
  · subst hz2
    have hix2 : ∀ w, (Instr.index 9 (.string E) (.int .i64 1)).run Try.prog w = .ok (.int .u8 (x : Int)) w := hix
    have hx13 : ((13 : Int) != (x : Int)) = true := by simp; omega
    have hi1 : ∀ w, (Instr.index 9 (.string ⟨#[10, 13]⟩) (.int .i64 1)).run Try.prog w = .ok (.int .u8 13) w := fun w => ix_by nlcr 1 (by decide) w
    have IB2 := Lib.hid (fun w => show Calls Try.prog 77 #[.string (ByteArray.extract ⟨#[10, 13]⟩ 2 2), .int .u8 (x : Int)] w fun e w' => e = .returned (.int .i64 (-1)) ∧ w = w' from (IB.out (ByteArray.extract ⟨#[10, 13]⟩ 2 2) x w).mono fun e w' ⟨h1, h2⟩ => ⟨h1, h2.symm⟩)
    clear hix
    go_enter Try.func72, Try.ntmps72
    go_wp2_with (go_at_call 78; ((with_reducible refine (VR.out _).mono ?_); rintro e w2 ⟨rfl, rfl⟩))
    apply wp_scope_straight
    go_wp2
    refine wp_loop_rounds 1 ?_
    rw [rounds_succ]
    go_wp2
    apply wp_scope_straight
    go_wp2
    go_region_o
    go_wp2
    go_region_with_o (go_at_call 77; refine (IB2.out _).mono ?_; rintro e w' ⟨rfl, rfl⟩)
    all_goals go_wp2
    all_goals simp only [Exit.noGoto_ret, Exit.inBlock, Exit.then]
    all_goals go_ret
    all_goals exact ⟨rfl, ((Below.refl _ _).drew).drew⟩
  · have hz3 : (2 : Int) ≤ (Z : Int) - 1 := by omega
    clear hix
    go_enter Try.func72, Try.ntmps72
    go_wp2_with (go_at_call 78; ((with_reducible refine (VR.out _).mono ?_); rintro e w2 ⟨rfl, rfl⟩))
    apply wp_scope_straight
    go_wp2
    refine wp_loop_rounds 1 ?_
    rw [rounds_succ]
    go_wp2
    simp only [Exit.noGoto_ret, Exit.inBlock, Exit.then]
    go_ret
    exact ⟨rfl, Below.refl _ _⟩

set_option maxRecDepth 1000000 in
set_option maxHeartbeats 4000000 in
theorem idxR_err (w : World) :
    Calls Try.prog 72 #[.string nlcr, .int .i32 65533] w fun e w' => e = .returned (.int .i64 (-1)) ∧ Below w.heap.size w w' := by
  have n0 : ∀ ty, (Instr.next (.pointer (some ⟨w.heap.size, 0, none⟩)) true ty).run Try.prog (w.iter nlcr 0) = _ := fun ty => run_next_any w nlcr 0 ty (by decide)
  have n1 : ∀ ty, (Instr.next (.pointer (some ⟨w.heap.size, 0, none⟩)) true ty).run Try.prog (w.iter nlcr 1) = _ := fun ty => run_next_any w nlcr 1 ty (by decide)
  have n2 : ∀ ty, (Instr.next (.pointer (some ⟨w.heap.size, 0, none⟩)) true ty).run Try.prog (w.iter nlcr 2) = _ := fun ty => run_next_end w nlcr 2 ty (by decide)
  have d0 : Utf8.decode nlcr 0 = (10, 1) := by decide
  have d1 : Utf8.decode nlcr 1 = (13, 1) := by decide
  rw [d0] at n0
  rw [d1] at n1
  unfold nlcr at *
  go_enter Try.func72, Try.ntmps72
  go_wp2
  refine wp_loop_rounds 3 ?_
  rw [rounds_succ]
  go_wp2
  rw [rounds_succ]
  go_wp2
  rw [rounds_succ]
  go_wp2
  go_ret
  exact ⟨rfl, (Below.refl _ _).alloc (Nat.le_refl _) _⟩

/-- strings.IndexRune in these two, of any rune. -/
theorem idxR_any (c : Nat) (w : World) (h1 : c ≤ 1114111) (h2 : c < 55296 ∨ 57344 ≤ c) :
    Calls Try.prog 72 #[.string nlcr, .int .i32 (c : Int)] w fun e w' => ∃ z : Int, e = .returned (.int .i64 z) ∧ (0 ≤ z ↔ U.isEol c = true) ∧ Below w.heap.size w w' := by
  by_cases h0 : c < 128
  · exact idxR_ascii c w h0
  have hne : U.isEol c = false := by
    cases h : U.isEol c with
    | false => rfl
    | true => rw [U.isEol_iff] at h; omega
  have hiff : (0 ≤ (-1 : Int) ↔ U.isEol c = true) := by rw [hne]; simp
  by_cases h3 : c = 65533
  · subst h3
    exact (idxR_err w).mono fun e w' ⟨a, b⟩ => ⟨_, a, hiff, b⟩
  · exact (idxR_more c w (by omega) h1 h2 h3).mono fun e w' ⟨a, b⟩ => ⟨_, a, hiff, b⟩

theorem short_set (n : Nat) (w : World) (h : n ≤ 8) : Calls Try.prog 73 #[.int .i64 (n : Int)] w fun e w' => e = .returned (.bool false) ∧ w = w' := by
  have h8 : (n : Int) ≤ 8 := by omega
  go_enter Try.func73, Try.ntmps73
  go_wp2
  go_ret
  exact ⟨by simp; omega, rfl⟩

theorem far_skip : ∀ (k : Nat) (l : List UInt8), k ≤ l.length → (∀ j, j < k → U.isEol (U.by_ l j) = false) → U.far l = k + U.far (l.drop k) := by
  intro k
  induction k with
  | zero => intro l _ _; simp
  | succ k ih =>
    intro l hl h
    cases l with
    | nil => simp at hl
    | cons b l =>
      have h0 : U.isEol b.toNat = false := h 0 (by omega)
      have e : U.far (b :: l) = U.far l + 1 := by
        show (if U.isEol b.toNat then 0 else U.far l + 1) = _
        rw [h0]; rfl
      rw [e, ih l (by simpa using hl) (fun j hj => h (j + 1) (by omega)), List.drop_succ_cons]
      omega
/-- How far it is to the first end, sign by sign. -/
theorem far_sign (l : List UInt8) (h : l ≠ []) : (U.isEol (U.dec l).1 = true → U.far l = 0) ∧ (U.isEol (U.dec l).1 = false → U.far l = (U.dec l).2 + U.far (l.drop (U.dec l).2)) := by
  have hd := U.dec_facts l h
  have hb : ∀ j, j < (U.dec l).2 → U.isEol (U.by_ l j) = true → (U.dec l).1 = U.by_ l j := by
    intro j hj he
    rw [U.isEol_iff] at he
    have hm : (U.dec l).2 ≤ l.length := hd.2.2.1
    unfold U.dec U.decM at hj ⊢
    split at hj
    · rename_i h0
      have : j = 0 := by simpa using hj
      subst this
      rw [if_pos h0]
    · rename_i h0
      have key : ∀ k, (∀ i, i < k → 128 ≤ U.by_ l i) → ¬ j < k := fun k hk hj => by have := hk j hj; omega
      exfalso
      have hlo := U.lo2_is (U.by_ l 0)
      split at hj
      · rename_i h1
        exact key 2 (fun i hi => by
          have : i = 0 ∨ i = 1 := by omega
          rcases this with rfl | rfl <;> omega) (by simpa using hj)
      · split at hj
        · rename_i h1 h2
          exact key 3 (fun i hi => by
            have : i = 0 ∨ i = 1 ∨ i = 2 := by omega
            rcases this with rfl | rfl | rfl <;> omega) (by simpa using hj)
        · split at hj
          · rename_i h1 h2 h3
            exact key 4 (fun i hi => by
              have : i = 0 ∨ i = 1 ∨ i = 2 ∨ i = 3 := by omega
              rcases this with rfl | rfl | rfl | rfl <;> omega) (by simpa using hj)
          · exact key 1 (fun i hi => by
              have : i = 0 := by omega
              subst this; omega) (by simpa using hj)
  refine ⟨fun he => ?_, fun he => ?_⟩
  · have h0 : (U.dec l).1 = U.by_ l 0 := by
      rw [U.isEol_iff] at he
      have hlo := U.lo2_is (U.by_ l 0)
      unfold U.dec U.decM at he ⊢
      split at he
      · rename_i h0; rw [if_pos h0]
      · exfalso
        split at he
        · simp only at he; omega
        · split at he
          · simp only at he; omega
          · split at he
            · simp only at he; omega
            · simp only at he; omega
    rw [h0] at he
    cases l with
    | nil => exact absurd rfl h
    | cons b l => show (if U.isEol b.toNat then 0 else U.far l + 1) = 0; rw [if_pos (show U.isEol b.toNat = true from he)]
  · refine far_skip _ l hd.2.2.1 (fun j hj => ?_)
    cases hx : U.isEol (U.by_ l j) with
    | false => rfl
    | true => rw [hb j hj hx, hx] at he; cases he

set_option maxRecDepth 1000000 in
set_option maxHeartbeats 4000000 in
theorem idx_short (s : ByteArray) (w : World) (h8 : s.size ≤ 8) :
    Calls Try.prog 64 #[.string s, .string nlcr] w fun e w' => e = .returned (.int .i64 (if U.far s.data.toList < s.size then (U.far s.data.toList : Int) else -1)) ∧ Below w.heap.size w w' := by
  obtain ⟨R, hR⟩ : ∃ R : Int, (if U.far s.data.toList < s.size then (U.far s.data.toList : Int) else -1) = R := ⟨_, rfl⟩
  rw [hR]
  have HR := Lib.hid hR
  have SS := Lib.hid (fun w => short_set s.size w h8)
  have RU := Lib.hid idxR_any
  have hnl : (nlcr.toList.isEmpty) = false := by rw [Lib.toList_data]; rfl
  have hn2 : ((nlcr.size : Int) == 1) = false := by decide
  have hF0 : Hid (U.far s.data.toList = 0 + U.far (s.data.toList.drop 0)) := Lib.hid (by simp)
  obtain ⟨N, hN⟩ : ∃ N, nlcr = N := ⟨_, rfl⟩
  rw [hN] at RU hnl hn2 ⊢
  clear hR hN
  go_enter Try.func64, Try.ntmps64
  go_wp2_with (go_at_call 73; ((with_reducible refine (SS.out _).mono ?_); rintro e w2 ⟨rfl, rfl⟩))
  go_loopw [] (fun wr => ∃ (pos : Nat), pos ≤ s.size ∧ wr.heap[w.heap.size]? = some (.stringIter s pos) ∧ Below w.heap.size w wr ∧ Hid (U.far s.data.toList = pos + U.far (s.data.toList.drop pos))) (fun wr => s.size - wr.iterPos w.heap.size)
  case atStart => exact ⟨0, Nat.zero_le _, World.iter_heap _ _ _, (Below.refl _ _).alloc (Nat.le_refl _) _, hF0⟩
  case round =>
    obtain ⟨pos, hps, hit, hB, hF⟩ := hrel
    have hpos : wr.iterPos w.heap.size = pos := by simp [World.iterPos, hit]
    by_cases hp : pos < s.size
    · have hd := decode_facts hp
      have hfs := far_sign (s.data.toList.drop pos) (drop_ne hp)
      rw [← U.decode_eq s pos hp, List.drop_drop] at hfs
      have hnx : ∀ ty, (Instr.next (.pointer (some ⟨w.heap.size, 0, none⟩)) true ty).run Try.prog wr = _ := fun ty => run_next_any_at wr w.heap.size s pos ty hit hp
      obtain ⟨c, wd, hdec⟩ : ∃ c wd, Utf8.decode s pos = (c, wd) := ⟨_, _, rfl⟩
      rw [hdec] at hd hfs hnx
      simp only at hd hfs hnx
      have hit1 := iterAt_heap wr w.heap.size s pos (pos + wd) hit
      have HD := Lib.hid hd
      have HFS := Lib.hid hfs
      have hpp : pos ≤ 8 := by omega
      have hBi : Below w.heap.size w (wr.iterAt w.heap.size s (pos + wd)) := hB.trans (((Fr.refl (fun k => k < w.heap.size) wr).iterAt w.heap.size s (pos + wd) (fun _ h => by omega)).toBelow (fun k h => h) hB.size)
      have hlt2 : w.heap.size < (wr.iterAt w.heap.size s (pos + wd)).heap.size := (Array.getElem?_eq_some_iff.1 hit1).1
      have HBI := Lib.hid hBi
      clear hd hfs hdec hBi
      go_wp2_with (go_at_call 72; ((with_reducible refine (RU.out _ _ (HD.out.2.2.2.1) (HD.out.2.2.2.2)).mono ?_); rintro e w3 ⟨z, rfl, hz, hb3⟩))
      · have he : U.isEol c = true := by assumption
        go_ret
        have h0 := HFS.out.1 he
        have h1 := hF.out
        have h2 := HR.out
        rw [h0, Nat.add_zero] at h1
        rw [h1, if_pos hp] at h2
        exact ⟨by rw [← h2]; rfl, HBI.out.trans (hb3.mono HBI.out.size)⟩
      · have he : U.isEol c = false := by simp_all
        have hd := HD.out
        go_roundw
        case rel =>
          refine ⟨pos + wd, hd.2.2.1, ?_, ?_, Lib.hid ?_⟩
          · exact (hb3.block _ hlt2).trans hit1
          · exact HBI.out.trans (hb3.mono HBI.out.size)
          · rw [hF.out, HFS.out.2 he]; omega
        case measure =>
          rw [show w3.iterPos w.heap.size = pos + wd from iterPos_of ((hb3.block _ hlt2).trans hit1), hpos]
          omega
    · have hnx : ∀ ty, (Instr.next (.pointer (some ⟨w.heap.size, 0, none⟩)) true ty).run Try.prog wr = _ := fun ty => run_next_end_at wr w.heap.size s pos ty hit hp
      have h1 := hF.out
      have h2 := HR.out
      rw [List.drop_of_length_le (by rw [← U.size_eq]; omega)] at h1
      have h3 : U.far s.data.toList = pos := h1
      rw [h3, if_neg hp] at h2
      clear h1
      go_wp2
      go_ret
      exact ⟨by rw [← h2]; rfl, hB⟩
end Go.Proofs.Ytokbmihjpllgpaa
