/- ref.one: the sign that begins at a place of bytes. -/
import Derived.Test.YtokbmihjpllgpaaSmall
import Derived.Lib.ConvBytes
import Derived.Deep.QuietTactic
import Derived.BigQuiet
import Derived.Handy
set_option linter.unusedVariables false
namespace Go.Proofs.Ytokbmihjpllgpaa
open Go.RowKit Go.Lib

/-- The bytes of l lie at block g. -/
def BytesAt (W : World) (g : Nat) (l : List UInt8) : Prop := ∀ j, j < l.length → W.cell? ⟨g, j, none⟩ = some (.int .u8 (U.by_ l j : Int))
theorem BytesAt.below {W W' : World} {g : Nat} {l : List UInt8} (h : BytesAt W g l) (hb : Below W.heap.size W W') : BytesAt W' g l :=
  fun j hj => (hb.cell (World.block_lt_of_cell? W _ (h j hj))).trans (h j hj)

set_option maxRecDepth 1000000 in
theorem long_any (c : Nat) (w : World) (hc : c < 256) : Calls Try.prog 68 #[.int .u8 (c : Int)] w fun e w' => e = .returned (.int .i64 (U.long c : Int)) ∧ w = w' := by
  have H := Lib.hid (show U.long c = if c < 128 then 1 else if 194 ≤ c ∧ c ≤ 223 then 2 else if 224 ≤ c ∧ c ≤ 239 then 3 else if 240 ≤ c ∧ c ≤ 244 then 4 else 0 from rfl)
  go_enter Try.func68, Try.ntmps68
  go_wp2
  all_goals
    go_ret
    refine ⟨r_int ?_, rfl⟩
    rw [H.out]
    first | (rw [if_pos (by omega)]; rfl) | (rw [if_neg (by omega), if_pos (by omega)]; rfl) | (rw [if_neg (by omega), if_neg (by omega), if_pos (by omega)]; rfl) | (rw [if_neg (by omega), if_neg (by omega), if_neg (by omega), if_pos (by omega)]; rfl) | (rw [if_neg (by omega), if_neg (by omega), if_neg (by omega), if_neg (by omega)]; rfl)

set_option maxRecDepth 1000000 in
theorem second_any (c d : Nat) (w : World) (hc : c < 256) (hd : d < 256) : Calls Try.prog 69 #[.int .u8 (c : Int), .int .u8 (d : Int)] w fun e w' => e = .returned (.bool (U.snd c d)) ∧ w = w' := by
  have h : c = 224 ∨ c = 237 ∨ c = 240 ∨ c = 244 ∨ (c ≠ 224 ∧ c ≠ 237 ∧ c ≠ 240 ∧ c ≠ 244) := by omega
  rcases h with rfl | rfl | rfl | rfl | ⟨h1, h2, h3, h4⟩
  · have H := Lib.hid (show U.snd 224 d = decide (160 ≤ d ∧ d ≤ 191) from rfl)
    go_enter Try.func69, Try.ntmps69
    go_wp2
    all_goals
      go_ret
      refine ⟨r_bool ?_, rfl⟩
      rw [H.out]
      first | (symm; rw [decide_eq_true_eq]; omega) | (symm; rw [decide_eq_false_iff_not]; omega) | (apply decide_eq_decide.2; omega)
  · have H := Lib.hid (show U.snd 237 d = decide (128 ≤ d ∧ d ≤ 159) from rfl)
    go_enter Try.func69, Try.ntmps69
    go_wp2
    all_goals
      go_ret
      refine ⟨r_bool ?_, rfl⟩
      rw [H.out]
      first | (symm; rw [decide_eq_true_eq]; omega) | (symm; rw [decide_eq_false_iff_not]; omega) | (apply decide_eq_decide.2; omega)
  · have H := Lib.hid (show U.snd 240 d = decide (144 ≤ d ∧ d ≤ 191) from rfl)
    go_enter Try.func69, Try.ntmps69
    go_wp2
    all_goals
      go_ret
      refine ⟨r_bool ?_, rfl⟩
      rw [H.out]
      first | (symm; rw [decide_eq_true_eq]; omega) | (symm; rw [decide_eq_false_iff_not]; omega) | (apply decide_eq_decide.2; omega)
  · have H := Lib.hid (show U.snd 244 d = decide (128 ≤ d ∧ d ≤ 143) from rfl)
    go_enter Try.func69, Try.ntmps69
    go_wp2
    all_goals
      go_ret
      refine ⟨r_bool ?_, rfl⟩
      rw [H.out]
      first | (symm; rw [decide_eq_true_eq]; omega) | (symm; rw [decide_eq_false_iff_not]; omega) | (apply decide_eq_decide.2; omega)
  · have H := Lib.hid (show U.snd c d = decide (128 ≤ d ∧ d ≤ 191) by unfold U.snd; rw [(U.lo2_is c).2.2.2.2 h1 h3, (U.hi2_is c).2.2.2.2 h2 h4])
    go_enter Try.func69, Try.ntmps69
    go_wp2
    all_goals
      go_ret
      refine ⟨r_bool ?_, rfl⟩
      rw [H.out]
      first | (symm; rw [decide_eq_true_eq]; omega) | (symm; rw [decide_eq_false_iff_not]; omega) | (apply decide_eq_decide.2; omega)

theorem rest_any (g n cap pos : Nat) (l : List UInt8) (w : World) (hl : l.length = n) (hn : n ≤ 4194304) (hp : pos < n) (hB : BytesAt w g l) :
    Calls Try.prog 70 #[.slice (some ⟨g, 0, none⟩) n cap, .int .i64 (pos : Int)] w fun e w' => e = .returned (.int .i64 ((U.by_ l pos : Int) - 128)) ∧ w = w' := by
  have hc := hB pos (by omega)
  have hb := U.by_lt l pos
  go_enter Try.func70, Try.ntmps70
  go_wp2
  go_ret
  exact ⟨rfl, rfl⟩

/-- Is a byte one that goes on? -/
def moreB (l : List UInt8) (pos : Nat) : Bool := decide (pos < l.length) && U.cont (U.by_ l pos)
theorem more_any (g n cap pos : Nat) (l : List UInt8) (w : World) (hl : l.length = n) (hn : n ≤ 4194304) (hB : BytesAt w g l) :
    Calls Try.prog 71 #[.slice (some ⟨g, 0, none⟩) n cap, .int .i64 (pos : Int)] w fun e w' => e = .returned (.bool (moreB l pos)) ∧ w = w' := by
  subst hl
  have hb := U.by_lt l pos
  by_cases hp : pos < l.length
  · have H := Lib.hid (show moreB l pos = decide (128 ≤ U.by_ l pos ∧ U.by_ l pos ≤ 191) by unfold moreB; rw [decide_eq_true hp]; rfl)
    have hc := hB pos (by omega)
    go_enter Try.func71, Try.ntmps71
    go_wp2
    all_goals
      go_ret
      refine ⟨r_bool ?_, rfl⟩
      rw [H.out]
      first | (symm; rw [decide_eq_true_eq]; omega) | (symm; rw [decide_eq_false_iff_not]; omega) | (apply decide_eq_decide.2; omega)
  · have H := Lib.hid (show moreB l pos = false by unfold moreB; rw [decide_eq_false hp]; rfl)
    go_enter Try.func71, Try.ntmps71
    go_wp2
    go_ret
    exact ⟨r_bool H.out.symm, rfl⟩

theorem rest_i (g n cap : Nat) (q : Int) (pos : Nat) (l : List UInt8) (w : World) (hl : l.length = n) (hn : n ≤ 4194304) (hq : q = (pos : Int)) (hp : pos < n) (hB : BytesAt w g l) :
    Calls Try.prog 70 #[.slice (some ⟨g, 0, none⟩) n cap, .int .i64 q] w fun e w' => e = .returned (.int .i64 ((U.by_ l pos : Int) - 128)) ∧ w = w' := by
  subst hq; exact rest_any g n cap pos l w hl hn hp hB
theorem more_i (g n cap : Nat) (q : Int) (pos : Nat) (b : Bool) (l : List UInt8) (w : World) (hl : l.length = n) (hn : n ≤ 4194304) (hq : q = (pos : Int)) (hb : moreB l pos = b) (hB : BytesAt w g l) :
    Calls Try.prog 71 #[.slice (some ⟨g, 0, none⟩) n cap, .int .i64 q] w fun e w' => e = .returned (.bool b) ∧ w = w' := by
  subst hq; subst hb; exact more_any g n cap pos l w hl hn hB

/-- ref's sign as a value. -/
def refV (a n c : Nat) (b : Bool) : Value := .agg #[.int .i64 (a : Int), .int .i64 (n : Int), .int .i64 (c : Int), .bool b]

set_option maxRecDepth 1000000 in
theorem one_ascii (g n cap pos : Nat) (l : List UInt8) (w : World) (hl : l.length = n) (hn : n ≤ 4194304) (hp : pos < n) (hB : BytesAt w g l) (hlong : U.long (U.by_ l pos) = 1) :
    Calls Try.prog 50 #[.slice (some ⟨g, 0, none⟩) n cap, .int .i64 (pos : Int)] w fun e w' => e = .returned (refV pos 1 (U.by_ l pos) false) ∧ Below w.heap.size w w' := by
  have hb := U.by_lt l pos
  have hc := hB pos (by omega)
  have hlt := World.block_lt_of_cell? w _ hc
  have hca : ∀ o : Obj, (w.alloc o).cell? ⟨g, pos, none⟩ = some (.int .u8 (U.by_ l pos : Int)) := fun o => (World.cell?_of_block (Below.heap_alloc w o g hlt)).trans hc
  have hcb : ∀ o o' : Obj, ((w.alloc o).alloc o').cell? ⟨g, pos, none⟩ = some (.int .u8 (U.by_ l pos : Int)) := fun o o' => (World.cell?_of_block (Below.heap_alloc _ o' g (by simp; exact Nat.lt_succ_of_lt hlt))).trans (hca o)
  have HL := Lib.hid hlong
  clear hlong
  go_enter Try.func50, Try.ntmps50
  go_wp2_with (go_at_call 68; refine (long_any _ _ hb).mono ?_; rintro e w' ⟨rfl, rfl⟩; rw [HL.out])
  exact bodyPost_ret (v := refV pos 1 (U.by_ l pos) false) (by simp [results, Try.results50, go_sem, refV]) rfl ⟨rfl, ((Below.refl _ _).alloc (Nat.le_refl _) _).alloc (by simp) _⟩

set_option maxRecDepth 1000000 in
theorem one_zero (g n cap pos : Nat) (l : List UInt8) (w : World) (hl : l.length = n) (hn : n ≤ 4194304) (hp : pos < n) (hB : BytesAt w g l) (hlong : U.long (U.by_ l pos) = 0) :
    Calls Try.prog 50 #[.slice (some ⟨g, 0, none⟩) n cap, .int .i64 (pos : Int)] w fun e w' => e = .returned (refV pos 1 65533 true) ∧ Below w.heap.size w w' := by
  have hb := U.by_lt l pos
  have hc := hB pos (by omega)
  have hlt := World.block_lt_of_cell? w _ hc
  have hca : ∀ o : Obj, (w.alloc o).cell? ⟨g, pos, none⟩ = some (.int .u8 (U.by_ l pos : Int)) := fun o => (World.cell?_of_block (Below.heap_alloc w o g hlt)).trans hc
  have HL := Lib.hid hlong
  clear hlong
  go_enter Try.func50, Try.ntmps50
  go_wp2_with (go_at_call 68; refine (long_any _ _ hb).mono ?_; rintro e w' ⟨rfl, rfl⟩; rw [HL.out])
  exact bodyPost_ret (v := refV pos 1 65533 true) (by simp [results, Try.results50, go_sem, refV]) rfl ⟨rfl, ((Below.refl _ _).alloc (Nat.le_refl _) _).alloc (by simp) _⟩

/-- Too short, or a wrong second byte. -/
theorem one_second (g n cap pos k : Nat) (l : List UInt8) (w : World) (hl : l.length = n) (hn : n ≤ 4194304) (hp : pos < n) (hB : BytesAt w g l) (hlong : U.long (U.by_ l pos) = k) (hk : 2 ≤ k) (hk4 : k ≤ 4) (hs : pos + 1 < n) (hsec : U.snd (U.by_ l pos) (U.by_ l (pos + 1)) = false) :
    Calls Try.prog 50 #[.slice (some ⟨g, 0, none⟩) n cap, .int .i64 (pos : Int)] w fun e w' => e = .returned (refV pos 1 65533 true) ∧ Below w.heap.size w w' := by
  have hb := U.by_lt l pos
  have hb1 := U.by_lt l (pos + 1)
  have hc := hB pos (by omega)
  have hc1 := hB (pos + 1) (by omega)
  have hlt := World.block_lt_of_cell? w _ hc
  have hca : ∀ o : Obj, (w.alloc o).cell? ⟨g, pos, none⟩ = some (.int .u8 (U.by_ l pos : Int)) := fun o => (World.cell?_of_block (Below.heap_alloc w o g hlt)).trans hc
  have hcb : ∀ o o' : Obj, ((w.alloc o).alloc o').cell? ⟨g, pos, none⟩ = some (.int .u8 (U.by_ l pos : Int)) := fun o o' => (World.cell?_of_block (Below.heap_alloc _ o' g (by simp; exact Nat.lt_succ_of_lt hlt))).trans (hca o)
  have hcb1 : ∀ o o' : Obj, ((w.alloc o).alloc o').cell? ⟨g, pos + 1, none⟩ = some (.int .u8 (U.by_ l (pos + 1) : Int)) := fun o o' => (World.cell?_of_block (Below.heap_alloc _ o' g (by simp; exact Nat.lt_succ_of_lt hlt))).trans ((World.cell?_of_block (Below.heap_alloc w o g hlt)).trans hc1)
  have HL := Lib.hid hlong
  have HS := Lib.hid hsec
  have hd : decide ((n : Int) ≤ (pos : Int) + 1) = false := decide_eq_false (by omega)
  clear hlong hsec hB
  go_enter Try.func50, Try.ntmps50
  go_wp2_with (go_at_call 68; refine (long_any _ _ hb).mono ?_; rintro e w' ⟨rfl, rfl⟩; rw [HL.out])
  go_quiet ((go_at_call 69; exact Calls.quiet_of_same ((second_any _ _ _ hb hb1).mono fun _ _ h => ⟨h.1.trans (by rw [HS.out]), h.2.symm⟩)))
  go_wp2
  exact bodyPost_ret (v := refV pos 1 65533 true) (by simp [results, Try.results50, go_sem, refV]) rfl ⟨rfl, by (repeat' (first | (with_reducible exact Below.refl _ _) | (with_reducible assumption) | (with_reducible refine below_dn ?_ _) | (with_reducible refine Below.drew ?_) | (with_reducible refine Below.alloc ?_ ?_ _) | (with_reducible refine Below.setCell ?_ ?_ _) | go_size))⟩

set_option maxRecDepth 1000000 in
theorem one_short (g n cap pos k : Nat) (l : List UInt8) (w : World) (hl : l.length = n) (hn : n ≤ 4194304) (hp : pos < n) (hB : BytesAt w g l) (hlong : U.long (U.by_ l pos) = k) (hk : 2 ≤ k) (hk4 : k ≤ 4) (hs : ¬ pos + 1 < n) :
    Calls Try.prog 50 #[.slice (some ⟨g, 0, none⟩) n cap, .int .i64 (pos : Int)] w fun e w' => e = .returned (refV pos 1 65533 true) ∧ Below w.heap.size w w' := by
  have hb := U.by_lt l pos
  have hc := hB pos (by omega)
  have hlt := World.block_lt_of_cell? w _ hc
  have hca : ∀ o : Obj, (w.alloc o).cell? ⟨g, pos, none⟩ = some (.int .u8 (U.by_ l pos : Int)) := fun o => (World.cell?_of_block (Below.heap_alloc w o g hlt)).trans hc
  have HL := Lib.hid hlong
  have hd : decide ((n : Int) ≤ (pos : Int) + 1) = true := decide_eq_true (by omega)
  clear hlong hB
  go_enter Try.func50, Try.ntmps50
  go_wp2_with (go_at_call 68; refine (long_any _ _ hb).mono ?_; rintro e w' ⟨rfl, rfl⟩; rw [HL.out])
  go_quiet (fail)
  go_wp2
  exact bodyPost_ret (v := refV pos 1 65533 true) (by simp [results, Try.results50, go_sem, refV]) rfl ⟨rfl, by (repeat' (first | (with_reducible exact Below.refl _ _) | (with_reducible assumption) | (with_reducible refine below_dn ?_ _) | (with_reducible refine Below.drew ?_) | (with_reducible refine Below.alloc ?_ ?_ _) | (with_reducible refine Below.setCell ?_ ?_ _) | go_size))⟩

set_option maxRecDepth 1000000 in
theorem one_two (g n cap pos : Nat) (l : List UInt8) (w : World) (hl : l.length = n) (hn : n ≤ 4194304) (hp : pos < n) (hB : BytesAt w g l) (hlong : U.long (U.by_ l pos) = 2) (h0 : 194 ≤ U.by_ l pos) (h0' : U.by_ l pos ≤ 223) (hs : pos + 1 < n) (hsec : U.snd (U.by_ l pos) (U.by_ l (pos + 1)) = true) (h1 : 128 ≤ U.by_ l (pos + 1)) (h1' : U.by_ l (pos + 1) ≤ 191) :
    Calls Try.prog 50 #[.slice (some ⟨g, 0, none⟩) n cap, .int .i64 (pos : Int)] w fun e w' => e = .returned (refV pos 2 ((U.by_ l pos - 192) * 64 + (U.by_ l (pos + 1) - 128)) false) ∧ Below w.heap.size w w' := by
  have hb := U.by_lt l pos
  have hb1 := U.by_lt l (pos + 1)
  have hc := hB pos (by omega)
  have hc1 := hB (pos + 1) (by omega)
  have hlt := World.block_lt_of_cell? w _ hc
  have hca : ∀ o : Obj, (w.alloc o).cell? ⟨g, pos, none⟩ = some (.int .u8 (U.by_ l pos : Int)) := fun o => (World.cell?_of_block (Below.heap_alloc w o g hlt)).trans hc
  have hcb : ∀ o o' : Obj, ((w.alloc o).alloc o').cell? ⟨g, pos, none⟩ = some (.int .u8 (U.by_ l pos : Int)) := fun o o' => (World.cell?_of_block (Below.heap_alloc _ o' g (by simp; exact Nat.lt_succ_of_lt hlt))).trans (hca o)
  have hcb1 : ∀ o o' : Obj, ((w.alloc o).alloc o').cell? ⟨g, pos + 1, none⟩ = some (.int .u8 (U.by_ l (pos + 1) : Int)) := fun o o' => (World.cell?_of_block (Below.heap_alloc _ o' g (by simp; exact Nat.lt_succ_of_lt hlt))).trans ((World.cell?_of_block (Below.heap_alloc w o g hlt)).trans hc1)
  have HB := Lib.hid (show ∀ (o o' : Obj) (m : Nat), BytesAt (((w.alloc o).alloc o').drewN m) g l from fun o o' m => (hB.below ((Below.refl _ _).alloc (Nat.le_refl _) o)).below (below_dn ((Below.refl _ _).alloc (Nat.le_refl _) o') m))
  have HR := Lib.hid (show (U.by_ l (pos + 1) : Int) - 128 + 64 * ((U.by_ l pos : Int) - 192) = ((((U.by_ l pos - 192) * 64 + (U.by_ l (pos + 1) - 128)) : Nat) : Int) by omega)
  have HL := Lib.hid hlong
  have HS := Lib.hid hsec
  have hd : decide ((n : Int) ≤ (pos : Int) + 1) = false := decide_eq_false (by omega)
  clear hlong hsec hB
  go_enter Try.func50, Try.ntmps50
  go_wp2_with (go_at_call 68; refine (long_any _ _ hb).mono ?_; rintro e w' ⟨rfl, rfl⟩; rw [HL.out])
  go_quiet ((go_at_call 69; exact Calls.quiet_of_same ((second_any _ _ _ hb hb1).mono fun _ _ h => ⟨h.1.trans (by rw [HS.out]), h.2.symm⟩)))
  go_wp2_with (first | (go_at_call 70; go_must (refine (rest_any g n cap (pos + 1) l _ hl hn hs (HB.out _ _ _)).mono ?_); rintro e w' ⟨rfl, rfl⟩))
  go_rounds 1
  exact bodyPost_ret (v := refV pos 2 _ false) (by simp [results, Try.results50, go_sem, refV, HR.out]) rfl ⟨rfl, by (repeat' (first | (with_reducible exact Below.refl _ _) | (with_reducible assumption) | (with_reducible refine below_dn ?_ _) | (with_reducible refine Below.drew ?_) | (with_reducible refine Below.alloc ?_ ?_ _) | (with_reducible refine Below.setCell ?_ ?_ _) | go_size))⟩
end Go.Proofs.Ytokbmihjpllgpaa
