/- Contracts of the small functions over numbers. -/
import Derived.Test.YtclblidfamabdaaG1
import Derived.Lib.ConvBytes
import Derived.Deep.QuietTactic
import Derived.BigQuiet
import Derived.Handy
import Derived.Test.YtclblidfamabdaaG2
set_option linter.unusedVariables false
namespace Go.Proofs.Ytclblidfamabdaa
open Go.RowKit Go.Lib

theorem r_int {k : IntKind} {a b : Int} (h : a = b) : Ending.returned (.int k a) = .returned (.int k b) := by rw [h]
theorem r_bool {a b : Bool} (h : a = b) : Ending.returned (.bool a) = .returned (.bool b) := by rw [h]

/-- A unit that is one. -/
def isUnit (u : Int) : Bool := decide (1 ≤ u ∧ u ≤ 3)

end Go.Proofs.Ytclblidfamabdaa

/- ref.one: the sign that begins at a place of bytes. -/
set_option linter.unusedVariables false
namespace Go.Proofs.Ytclblidfamabdaa
open Go.RowKit Go.Lib

/-- The bytes of l lie at block g. -/
def BytesAt (W : World) (g : Nat) (l : List UInt8) : Prop := ∀ j, j < l.length → W.cell? ⟨g, j, none⟩ = some (.int .u8 (U.by_ l j : Int))
theorem BytesAt.below {W W' : World} {g : Nat} {l : List UInt8} (h : BytesAt W g l) (hb : Below W.heap.size W W') : BytesAt W' g l :=
  fun j hj => (hb.cell (World.block_lt_of_cell? W _ (h j hj))).trans (h j hj)

set_option maxRecDepth 1000000 in
theorem long_any (c : Nat) (w : World) (hc : c < 256) : Calls Try.prog 100 #[.int .u8 (c : Int)] w fun e w' => e = .returned (.int .i64 (U.long c : Int)) ∧ w = w' := by
  have H := Lib.hid (show U.long c = if c < 128 then 1 else if 194 ≤ c ∧ c ≤ 223 then 2 else if 224 ≤ c ∧ c ≤ 239 then 3 else if 240 ≤ c ∧ c ≤ 244 then 4 else 0 from rfl)
  go_enter Try.func100, Try.ntmps100
  go_wp2
  all_goals
    go_ret
    refine ⟨r_int ?_, rfl⟩
    rw [H.out]
    first | (rw [if_pos (by omega)]; rfl) | (rw [if_neg (by omega), if_pos (by omega)]; rfl) | (rw [if_neg (by omega), if_neg (by omega), if_pos (by omega)]; rfl) | (rw [if_neg (by omega), if_neg (by omega), if_neg (by omega), if_pos (by omega)]; rfl) | (rw [if_neg (by omega), if_neg (by omega), if_neg (by omega), if_neg (by omega)]; rfl)

set_option maxRecDepth 1000000 in
theorem second_any (c d : Nat) (w : World) (hc : c < 256) (hd : d < 256) : Calls Try.prog 101 #[.int .u8 (c : Int), .int .u8 (d : Int)] w fun e w' => e = .returned (.bool (U.snd c d)) ∧ w = w' := by
  have h : c = 224 ∨ c = 237 ∨ c = 240 ∨ c = 244 ∨ (c ≠ 224 ∧ c ≠ 237 ∧ c ≠ 240 ∧ c ≠ 244) := by omega
  rcases h with rfl | rfl | rfl | rfl | ⟨h1, h2, h3, h4⟩
  · have H := Lib.hid (show U.snd 224 d = decide (160 ≤ d ∧ d ≤ 191) from rfl)
    go_enter Try.func101, Try.ntmps101
    go_wp2
    all_goals
      go_ret
      refine ⟨r_bool ?_, rfl⟩
      rw [H.out]
      first | (symm; rw [decide_eq_true_eq]; omega) | (symm; rw [decide_eq_false_iff_not]; omega) | (apply decide_eq_decide.2; omega)
  · have H := Lib.hid (show U.snd 237 d = decide (128 ≤ d ∧ d ≤ 159) from rfl)
    go_enter Try.func101, Try.ntmps101
    go_wp2
    all_goals
      go_ret
      refine ⟨r_bool ?_, rfl⟩
      rw [H.out]
      first | (symm; rw [decide_eq_true_eq]; omega) | (symm; rw [decide_eq_false_iff_not]; omega) | (apply decide_eq_decide.2; omega)
  · have H := Lib.hid (show U.snd 240 d = decide (144 ≤ d ∧ d ≤ 191) from rfl)
    go_enter Try.func101, Try.ntmps101
    go_wp2
    all_goals
      go_ret
      refine ⟨r_bool ?_, rfl⟩
      rw [H.out]
      first | (symm; rw [decide_eq_true_eq]; omega) | (symm; rw [decide_eq_false_iff_not]; omega) | (apply decide_eq_decide.2; omega)
  · have H := Lib.hid (show U.snd 244 d = decide (128 ≤ d ∧ d ≤ 143) from rfl)
    go_enter Try.func101, Try.ntmps101
    go_wp2
    all_goals
      go_ret
      refine ⟨r_bool ?_, rfl⟩
      rw [H.out]
      first | (symm; rw [decide_eq_true_eq]; omega) | (symm; rw [decide_eq_false_iff_not]; omega) | (apply decide_eq_decide.2; omega)
  · have H := Lib.hid (show U.snd c d = decide (128 ≤ d ∧ d ≤ 191) by unfold U.snd; rw [(U.lo2_is c).2.2.2.2 h1 h3, (U.hi2_is c).2.2.2.2 h2 h4])
    go_enter Try.func101, Try.ntmps101
    go_wp2
    all_goals
      go_ret
      refine ⟨r_bool ?_, rfl⟩
      rw [H.out]
      first | (symm; rw [decide_eq_true_eq]; omega) | (symm; rw [decide_eq_false_iff_not]; omega) | (apply decide_eq_decide.2; omega)

theorem rest_any (g n cap pos : Nat) (l : List UInt8) (w : World) (hl : l.length = n) (hn : n ≤ 4194304) (hp : pos < n) (hB : BytesAt w g l) :
    Calls Try.prog 102 #[.slice (some ⟨g, 0, none⟩) n cap, .int .i64 (pos : Int)] w fun e w' => e = .returned (.int .i64 ((U.by_ l pos : Int) - 128)) ∧ w = w' := by
  have hc := hB pos (by omega)
  have hb := U.by_lt l pos
  go_enter Try.func102, Try.ntmps102
  go_wp2
  go_ret
  exact ⟨rfl, rfl⟩

/-- Is a byte one that goes on? -/
def moreB (l : List UInt8) (pos : Nat) : Bool := decide (pos < l.length) && U.cont (U.by_ l pos)
theorem more_any (g n cap pos : Nat) (l : List UInt8) (w : World) (hl : l.length = n) (hn : n ≤ 4194304) (hB : BytesAt w g l) :
    Calls Try.prog 103 #[.slice (some ⟨g, 0, none⟩) n cap, .int .i64 (pos : Int)] w fun e w' => e = .returned (.bool (moreB l pos)) ∧ w = w' := by
  subst hl
  have hb := U.by_lt l pos
  by_cases hp : pos < l.length
  · have H := Lib.hid (show moreB l pos = decide (128 ≤ U.by_ l pos ∧ U.by_ l pos ≤ 191) by unfold moreB; rw [decide_eq_true hp]; rfl)
    have hc := hB pos (by omega)
    go_enter Try.func103, Try.ntmps103
    go_wp2
    all_goals
      go_ret
      refine ⟨r_bool ?_, rfl⟩
      rw [H.out]
      first | (symm; rw [decide_eq_true_eq]; omega) | (symm; rw [decide_eq_false_iff_not]; omega) | (apply decide_eq_decide.2; omega)
  · have H := Lib.hid (show moreB l pos = false by unfold moreB; rw [decide_eq_false hp]; rfl)
    go_enter Try.func103, Try.ntmps103
    go_wp2
    go_ret
    exact ⟨r_bool H.out.symm, rfl⟩

theorem rest_i (g n cap : Nat) (q : Int) (pos : Nat) (l : List UInt8) (w : World) (hl : l.length = n) (hn : n ≤ 4194304) (hq : q = (pos : Int)) (hp : pos < n) (hB : BytesAt w g l) :
    Calls Try.prog 102 #[.slice (some ⟨g, 0, none⟩) n cap, .int .i64 q] w fun e w' => e = .returned (.int .i64 ((U.by_ l pos : Int) - 128)) ∧ w = w' := by
  subst hq; exact rest_any g n cap pos l w hl hn hp hB
theorem more_i (g n cap : Nat) (q : Int) (pos : Nat) (b : Bool) (l : List UInt8) (w : World) (hl : l.length = n) (hn : n ≤ 4194304) (hq : q = (pos : Int)) (hb : moreB l pos = b) (hB : BytesAt w g l) :
    Calls Try.prog 103 #[.slice (some ⟨g, 0, none⟩) n cap, .int .i64 q] w fun e w' => e = .returned (.bool b) ∧ w = w' := by
  subst hq; subst hb; exact more_any g n cap pos l w hl hn hB

/-- ref's sign as a value. -/
def refV (a n c : Nat) (b : Bool) : Value := .agg #[.int .i64 (a : Int), .int .i64 (n : Int), .int .i64 (c : Int), .bool b]

set_option maxRecDepth 1000000 in
theorem one_ascii (g n cap pos : Nat) (l : List UInt8) (w : World) (hl : l.length = n) (hn : n ≤ 4194304) (hp : pos < n) (hB : BytesAt w g l) (hlong : U.long (U.by_ l pos) = 1) :
    Calls Try.prog 93 #[.slice (some ⟨g, 0, none⟩) n cap, .int .i64 (pos : Int)] w fun e w' => e = .returned (refV pos 1 (U.by_ l pos) false) ∧ Below w.heap.size w w' := by
  have hb := U.by_lt l pos
  have hc := hB pos (by omega)
  have hlt := World.block_lt_of_cell? w _ hc
  have hca : ∀ o : Obj, (w.alloc o).cell? ⟨g, pos, none⟩ = some (.int .u8 (U.by_ l pos : Int)) := fun o => (World.cell?_of_block (Below.heap_alloc w o g hlt)).trans hc
  have hcb : ∀ o o' : Obj, ((w.alloc o).alloc o').cell? ⟨g, pos, none⟩ = some (.int .u8 (U.by_ l pos : Int)) := fun o o' => (World.cell?_of_block (Below.heap_alloc _ o' g (by simp; exact Nat.lt_succ_of_lt hlt))).trans (hca o)
  have HL := Lib.hid hlong
  clear hlong
  go_enter Try.func93, Try.ntmps93
  go_wp2_with (go_at_call 100; refine (long_any _ _ hb).mono ?_; rintro e w' ⟨rfl, rfl⟩; rw [HL.out])
  exact bodyPost_ret (v := refV pos 1 (U.by_ l pos) false) (by simp [results, Try.results93, go_sem, refV]) rfl ⟨rfl, ((Below.refl _ _).alloc (Nat.le_refl _) _).alloc (by simp) _⟩

set_option maxRecDepth 1000000 in
theorem one_zero (g n cap pos : Nat) (l : List UInt8) (w : World) (hl : l.length = n) (hn : n ≤ 4194304) (hp : pos < n) (hB : BytesAt w g l) (hlong : U.long (U.by_ l pos) = 0) :
    Calls Try.prog 93 #[.slice (some ⟨g, 0, none⟩) n cap, .int .i64 (pos : Int)] w fun e w' => e = .returned (refV pos 1 65533 true) ∧ Below w.heap.size w w' := by
  have hb := U.by_lt l pos
  have hc := hB pos (by omega)
  have hlt := World.block_lt_of_cell? w _ hc
  have hca : ∀ o : Obj, (w.alloc o).cell? ⟨g, pos, none⟩ = some (.int .u8 (U.by_ l pos : Int)) := fun o => (World.cell?_of_block (Below.heap_alloc w o g hlt)).trans hc
  have HL := Lib.hid hlong
  clear hlong
  go_enter Try.func93, Try.ntmps93
  go_wp2_with (go_at_call 100; refine (long_any _ _ hb).mono ?_; rintro e w' ⟨rfl, rfl⟩; rw [HL.out])
  exact bodyPost_ret (v := refV pos 1 65533 true) (by simp [results, Try.results93, go_sem, refV]) rfl ⟨rfl, ((Below.refl _ _).alloc (Nat.le_refl _) _).alloc (by simp) _⟩

/-- Too short, or a wrong second byte. -/
theorem one_second (g n cap pos k : Nat) (l : List UInt8) (w : World) (hl : l.length = n) (hn : n ≤ 4194304) (hp : pos < n) (hB : BytesAt w g l) (hlong : U.long (U.by_ l pos) = k) (hk : 2 ≤ k) (hk4 : k ≤ 4) (hs : pos + 1 < n) (hsec : U.snd (U.by_ l pos) (U.by_ l (pos + 1)) = false) :
    Calls Try.prog 93 #[.slice (some ⟨g, 0, none⟩) n cap, .int .i64 (pos : Int)] w fun e w' => e = .returned (refV pos 1 65533 true) ∧ Below w.heap.size w w' := by
  have hb := U.by_lt l pos
  have hb1 := U.by_lt l (pos + 1)
  have hc := hB pos (by omega)
  have hc1 := hB (pos + 1) (by omega)
  have hlt := World.block_lt_of_cell? w _ hc
  have hca : ∀ o : Obj, (w.alloc o).cell? ⟨g, pos, none⟩ = some (.int .u8 (U.by_ l pos : Int)) := fun o => (World.cell?_of_block (Below.heap_alloc w o g hlt)).trans hc
  have hcb : ∀ o o' : Obj, ((w.alloc o).alloc o').cell? ⟨g, pos, none⟩ = some (.int .u8 (U.by_ l pos : Int)) := fun o o' => (World.cell?_of_block (Below.heap_alloc _ o' g (by simp; exact Nat.lt_succ_of_lt hlt))).trans (hca o)
  have hcb1 : ∀ o o' : Obj, ((w.alloc o).alloc o').cell? ⟨g, pos + 1, none⟩ = some (.int .u8 (U.by_ l (pos + 1) : Int)) := fun o o' => (World.cell?_of_block (Below.heap_alloc _ o' g (by simp; exact Nat.lt_succ_of_lt hlt))).trans ((World.cell?_of_block (Below.heap_alloc w o g hlt)).trans hc1)
  have HL := Lib.hid hlong
  have HS := Lib.hid hsec
  have hd : decide ((n : Int) ≤ (pos : Int) + 1) = false := decide_eq_false (by omega)
  clear hlong hsec hB
  go_enter Try.func93, Try.ntmps93
  go_wp2_with (go_at_call 100; refine (long_any _ _ hb).mono ?_; rintro e w' ⟨rfl, rfl⟩; rw [HL.out])
  go_quiet ((go_at_call 101; exact Calls.quiet_of_same ((second_any _ _ _ hb hb1).mono fun _ _ h => ⟨h.1.trans (by rw [HS.out]), h.2.symm⟩)))
  go_wp2
  exact bodyPost_ret (v := refV pos 1 65533 true) (by simp [results, Try.results93, go_sem, refV]) rfl ⟨rfl, by (repeat' (first | (with_reducible exact Below.refl _ _) | (with_reducible assumption) | (with_reducible refine below_dn ?_ _) | (with_reducible refine Below.drew ?_) | (with_reducible refine Below.alloc ?_ ?_ _) | (with_reducible refine Below.setCell ?_ ?_ _) | go_size))⟩

set_option maxRecDepth 1000000 in
theorem one_short (g n cap pos k : Nat) (l : List UInt8) (w : World) (hl : l.length = n) (hn : n ≤ 4194304) (hp : pos < n) (hB : BytesAt w g l) (hlong : U.long (U.by_ l pos) = k) (hk : 2 ≤ k) (hk4 : k ≤ 4) (hs : ¬ pos + 1 < n) :
    Calls Try.prog 93 #[.slice (some ⟨g, 0, none⟩) n cap, .int .i64 (pos : Int)] w fun e w' => e = .returned (refV pos 1 65533 true) ∧ Below w.heap.size w w' := by
  have hb := U.by_lt l pos
  have hc := hB pos (by omega)
  have hlt := World.block_lt_of_cell? w _ hc
  have hca : ∀ o : Obj, (w.alloc o).cell? ⟨g, pos, none⟩ = some (.int .u8 (U.by_ l pos : Int)) := fun o => (World.cell?_of_block (Below.heap_alloc w o g hlt)).trans hc
  have HL := Lib.hid hlong
  have hd : decide ((n : Int) ≤ (pos : Int) + 1) = true := decide_eq_true (by omega)
  clear hlong hB
  go_enter Try.func93, Try.ntmps93
  go_wp2_with (go_at_call 100; refine (long_any _ _ hb).mono ?_; rintro e w' ⟨rfl, rfl⟩; rw [HL.out])
  go_quiet (fail)
  go_wp2
  exact bodyPost_ret (v := refV pos 1 65533 true) (by simp [results, Try.results93, go_sem, refV]) rfl ⟨rfl, by (repeat' (first | (with_reducible exact Below.refl _ _) | (with_reducible assumption) | (with_reducible refine below_dn ?_ _) | (with_reducible refine Below.drew ?_) | (with_reducible refine Below.alloc ?_ ?_ _) | (with_reducible refine Below.setCell ?_ ?_ _) | go_size))⟩

set_option maxRecDepth 1000000 in
theorem one_two (g n cap pos : Nat) (l : List UInt8) (w : World) (hl : l.length = n) (hn : n ≤ 4194304) (hp : pos < n) (hB : BytesAt w g l) (hlong : U.long (U.by_ l pos) = 2) (h0 : 194 ≤ U.by_ l pos) (h0' : U.by_ l pos ≤ 223) (hs : pos + 1 < n) (hsec : U.snd (U.by_ l pos) (U.by_ l (pos + 1)) = true) (h1 : 128 ≤ U.by_ l (pos + 1)) (h1' : U.by_ l (pos + 1) ≤ 191) :
    Calls Try.prog 93 #[.slice (some ⟨g, 0, none⟩) n cap, .int .i64 (pos : Int)] w fun e w' => e = .returned (refV pos 2 ((U.by_ l pos - 192) * 64 + (U.by_ l (pos + 1) - 128)) false) ∧ Below w.heap.size w w' := by
  have hb := U.by_lt l pos
  have hb1 := U.by_lt l (pos + 1)
  have hc := hB pos (by omega)
  have hc1 := hB (pos + 1) (by omega)
  have hlt := World.block_lt_of_cell? w _ hc
  have hca : ∀ o : Obj, (w.alloc o).cell? ⟨g, pos, none⟩ = some (.int .u8 (U.by_ l pos : Int)) := fun o => (World.cell?_of_block (Below.heap_alloc w o g hlt)).trans hc
  have hcb : ∀ o o' : Obj, ((w.alloc o).alloc o').cell? ⟨g, pos, none⟩ = some (.int .u8 (U.by_ l pos : Int)) := fun o o' => (World.cell?_of_block (Below.heap_alloc _ o' g (by simp; exact Nat.lt_succ_of_lt hlt))).trans (hca o)
  have hcb1 : ∀ o o' : Obj, ((w.alloc o).alloc o').cell? ⟨g, pos + 1, none⟩ = some (.int .u8 (U.by_ l (pos + 1) : Int)) := fun o o' => (World.cell?_of_block (Below.heap_alloc _ o' g (by simp; exact Nat.lt_succ_of_lt hlt))).trans ((World.cell?_of_block (Below.heap_alloc w o g hlt)).trans hc1)
  have HB := Lib.hid (show ∀ (o o' : Obj) (m : Nat), BytesAt (((w.alloc o).alloc o').drewN m) g l from fun o o' m => (hB.below ((Below.refl _ _).alloc (Nat.le_refl _) o)).below (below_dn ((Below.refl _ _).alloc (Nat.le_refl _) o') m))
  have HR := Lib.hid (show (U.by_ l (pos + 1) : Int) - 128 + 64 * ((U.by_ l pos : Int) - 192) = ((((U.by_ l pos - 192) * 64 + (U.by_ l (pos + 1) - 128)) : Nat) : Int) by omega)
  have HL := Lib.hid hlong
  have HS := Lib.hid hsec
  have hd : decide ((n : Int) ≤ (pos : Int) + 1) = false := decide_eq_false (by omega)
  clear hlong hsec hB
  go_enter Try.func93, Try.ntmps93
  go_wp2_with (go_at_call 100; refine (long_any _ _ hb).mono ?_; rintro e w' ⟨rfl, rfl⟩; rw [HL.out])
  go_quiet ((go_at_call 101; exact Calls.quiet_of_same ((second_any _ _ _ hb hb1).mono fun _ _ h => ⟨h.1.trans (by rw [HS.out]), h.2.symm⟩)))
  go_wp2_with (first | (go_at_call 102; go_must (refine (rest_any g n cap (pos + 1) l _ hl hn hs (HB.out _ _ _)).mono ?_); rintro e w' ⟨rfl, rfl⟩))
  go_rounds 1
  exact bodyPost_ret (v := refV pos 2 _ false) (by simp [results, Try.results93, go_sem, refV, HR.out]) rfl ⟨rfl, by (repeat' (first | (with_reducible exact Below.refl _ _) | (with_reducible assumption) | (with_reducible refine below_dn ?_ _) | (with_reducible refine Below.drew ?_) | (with_reducible refine Below.alloc ?_ ?_ _) | (with_reducible refine Below.setCell ?_ ?_ _) | go_size))⟩
end Go.Proofs.Ytclblidfamabdaa

/- ref.one: the ways behind a right second byte. -/
set_option linter.unusedVariables false
namespace Go.Proofs.Ytclblidfamabdaa
open Go.RowKit Go.Lib

set_option maxRecDepth 1000000 in
theorem one_bad2 (g n cap pos k : Nat) (l : List UInt8) (w : World) (hl : l.length = n) (hn : n ≤ 4194304) (hp : pos < n) (hB : BytesAt w g l) (hlong : U.long (U.by_ l pos) = k) (hk : 3 ≤ k) (hk4 : k ≤ 4) (hs : pos + 1 < n) (hsec : U.snd (U.by_ l pos) (U.by_ l (pos + 1)) = true) (h1 : 128 ≤ U.by_ l (pos + 1)) (h1' : U.by_ l (pos + 1) ≤ 191) (hm2 : moreB l (pos + 2) = false) :
    Calls Try.prog 93 #[.slice (some ⟨g, 0, none⟩) n cap, .int .i64 (pos : Int)] w fun e w' => e = .returned (refV pos 1 65533 true) ∧ Below w.heap.size w w' := by
  have hb := U.by_lt l pos
  have hb1 := U.by_lt l (pos + 1)
  have hc := hB pos (by omega)
  have hc1 := hB (pos + 1) (by omega)
  have hlt := World.block_lt_of_cell? w _ hc
  have hca : ∀ o : Obj, (w.alloc o).cell? ⟨g, pos, none⟩ = some (.int .u8 (U.by_ l pos : Int)) := fun o => (World.cell?_of_block (Below.heap_alloc w o g hlt)).trans hc
  have hcb : ∀ o o' : Obj, ((w.alloc o).alloc o').cell? ⟨g, pos, none⟩ = some (.int .u8 (U.by_ l pos : Int)) := fun o o' => (World.cell?_of_block (Below.heap_alloc _ o' g (by simp; exact Nat.lt_succ_of_lt hlt))).trans (hca o)
  have hcb1 : ∀ o o' : Obj, ((w.alloc o).alloc o').cell? ⟨g, pos + 1, none⟩ = some (.int .u8 (U.by_ l (pos + 1) : Int)) := fun o o' => (World.cell?_of_block (Below.heap_alloc _ o' g (by simp; exact Nat.lt_succ_of_lt hlt))).trans ((World.cell?_of_block (Below.heap_alloc w o g hlt)).trans hc1)
  have HB := Lib.hid (show ∀ (o o' : Obj) (m : Nat), BytesAt (((w.alloc o).alloc o').drewN m) g l from fun o o' m => (hB.below ((Below.refl _ _).alloc (Nat.le_refl _) o)).below (below_dn ((Below.refl _ _).alloc (Nat.le_refl _) o') m))
  have HL := Lib.hid hlong
  have HS := Lib.hid hsec
  have hd : decide ((n : Int) ≤ (pos : Int) + 1) = false := decide_eq_false (by omega)
  have M2 := Lib.hid hm2
  clear hm2
  clear hlong hsec hB
  go_enter Try.func93, Try.ntmps93
  go_wp2_with (go_at_call 100; refine (long_any _ _ hb).mono ?_; rintro e w' ⟨rfl, rfl⟩; rw [HL.out])
  go_quiet ((go_at_call 101; exact Calls.quiet_of_same ((second_any _ _ _ hb hb1).mono fun _ _ h => ⟨h.1.trans (by rw [HS.out]), h.2.symm⟩)))
  go_wp2_with (first | (go_at_call 102; refine (rest_i g n cap _ (pos + 1) l _ hl hn ?_ hs (HB.out _ _ _)).mono ?_; (omega); rintro e w' ⟨rfl, rfl⟩) | (go_at_call 103; refine (more_i g n cap _ (pos + 2) false l _ hl hn ?_ M2.out (HB.out _ _ _)).mono ?_; (omega); rintro e w' ⟨rfl, rfl⟩))
  refine wp_loop_rounds 1 ?_
  repeat any_goals (rw [rounds_succ]; go_wp2_with (first | (go_at_call 102; refine (rest_i g n cap _ (pos + 1) l _ hl hn ?_ hs (HB.out _ _ _)).mono ?_; (omega); rintro e w' ⟨rfl, rfl⟩) | (go_at_call 103; refine (more_i g n cap _ (pos + 2) false l _ hl hn ?_ M2.out (HB.out _ _ _)).mono ?_; (omega); rintro e w' ⟨rfl, rfl⟩)))
  exact bodyPost_ret (v := refV pos 1 65533 true) (by simp [results, Try.results93, go_sem, refV]) rfl ⟨rfl, by (repeat' (first | (with_reducible exact Below.refl _ _) | (with_reducible assumption) | (with_reducible refine below_dn ?_ _) | (with_reducible refine Below.drew ?_) | (with_reducible refine Below.alloc ?_ ?_ _) | (with_reducible refine Below.setCell ?_ ?_ _) | go_size))⟩

set_option maxRecDepth 1000000 in
theorem one_three (g n cap pos : Nat) (l : List UInt8) (w : World) (hl : l.length = n) (hn : n ≤ 4194304) (hp : pos < n) (hB : BytesAt w g l) (hlong : U.long (U.by_ l pos) = 3) (h0 : 224 ≤ U.by_ l pos) (h0' : U.by_ l pos ≤ 239) (hs : pos + 1 < n) (hsec : U.snd (U.by_ l pos) (U.by_ l (pos + 1)) = true) (h1 : 128 ≤ U.by_ l (pos + 1)) (h1' : U.by_ l (pos + 1) ≤ 191) (hs2 : pos + 2 < n) (hm2 : moreB l (pos + 2) = true) (h2 : 128 ≤ U.by_ l (pos + 2)) (h2' : U.by_ l (pos + 2) ≤ 191) :
    Calls Try.prog 93 #[.slice (some ⟨g, 0, none⟩) n cap, .int .i64 (pos : Int)] w fun e w' => e = .returned (refV pos 3 ((U.by_ l pos - 224) * 4096 + (U.by_ l (pos + 1) - 128) * 64 + (U.by_ l (pos + 2) - 128)) false) ∧ Below w.heap.size w w' := by
  have hb := U.by_lt l pos
  have hb1 := U.by_lt l (pos + 1)
  have hc := hB pos (by omega)
  have hc1 := hB (pos + 1) (by omega)
  have hlt := World.block_lt_of_cell? w _ hc
  have hca : ∀ o : Obj, (w.alloc o).cell? ⟨g, pos, none⟩ = some (.int .u8 (U.by_ l pos : Int)) := fun o => (World.cell?_of_block (Below.heap_alloc w o g hlt)).trans hc
  have hcb : ∀ o o' : Obj, ((w.alloc o).alloc o').cell? ⟨g, pos, none⟩ = some (.int .u8 (U.by_ l pos : Int)) := fun o o' => (World.cell?_of_block (Below.heap_alloc _ o' g (by simp; exact Nat.lt_succ_of_lt hlt))).trans (hca o)
  have hcb1 : ∀ o o' : Obj, ((w.alloc o).alloc o').cell? ⟨g, pos + 1, none⟩ = some (.int .u8 (U.by_ l (pos + 1) : Int)) := fun o o' => (World.cell?_of_block (Below.heap_alloc _ o' g (by simp; exact Nat.lt_succ_of_lt hlt))).trans ((World.cell?_of_block (Below.heap_alloc w o g hlt)).trans hc1)
  have HB := Lib.hid (show ∀ (o o' : Obj) (m : Nat), BytesAt (((w.alloc o).alloc o').drewN m) g l from fun o o' m => (hB.below ((Below.refl _ _).alloc (Nat.le_refl _) o)).below (below_dn ((Below.refl _ _).alloc (Nat.le_refl _) o') m))
  have HR := Lib.hid (show 64 * ((U.by_ l (pos + 1) : Int) - 128) + ((U.by_ l (pos + 2) : Int) - 128) + 4096 * ((U.by_ l pos : Int) - 224) = (((U.by_ l pos - 224) * 4096 + (U.by_ l (pos + 1) - 128) * 64 + (U.by_ l (pos + 2) - 128)) : Nat) by omega)
  have HL := Lib.hid hlong
  have HS := Lib.hid hsec
  have hd : decide ((n : Int) ≤ (pos : Int) + 1) = false := decide_eq_false (by omega)
  have M2 := Lib.hid hm2
  clear hm2
  clear hlong hsec hB
  go_enter Try.func93, Try.ntmps93
  go_wp2_with (go_at_call 100; refine (long_any _ _ hb).mono ?_; rintro e w' ⟨rfl, rfl⟩; rw [HL.out])
  go_quiet ((go_at_call 101; exact Calls.quiet_of_same ((second_any _ _ _ hb hb1).mono fun _ _ h => ⟨h.1.trans (by rw [HS.out]), h.2.symm⟩)))
  go_wp2_with (first | (go_at_call 102; refine (rest_i g n cap _ (pos + 1) l _ hl hn ?_ hs (HB.out _ _ _)).mono ?_; (omega); rintro e w' ⟨rfl, rfl⟩) | (go_at_call 102; refine (rest_i g n cap _ (pos + 2) l _ hl hn ?_ hs2 (HB.out _ _ _)).mono ?_; (omega); rintro e w' ⟨rfl, rfl⟩) | (go_at_call 103; refine (more_i g n cap _ (pos + 2) true l _ hl hn ?_ M2.out (HB.out _ _ _)).mono ?_; (omega); rintro e w' ⟨rfl, rfl⟩))
  refine wp_loop_rounds 2 ?_
  repeat any_goals (rw [rounds_succ]; go_wp2_with (first | (go_at_call 102; refine (rest_i g n cap _ (pos + 1) l _ hl hn ?_ hs (HB.out _ _ _)).mono ?_; (omega); rintro e w' ⟨rfl, rfl⟩) | (go_at_call 102; refine (rest_i g n cap _ (pos + 2) l _ hl hn ?_ hs2 (HB.out _ _ _)).mono ?_; (omega); rintro e w' ⟨rfl, rfl⟩) | (go_at_call 103; refine (more_i g n cap _ (pos + 2) true l _ hl hn ?_ M2.out (HB.out _ _ _)).mono ?_; (omega); rintro e w' ⟨rfl, rfl⟩)))
  exact bodyPost_ret (v := refV pos 3 _ false) (by simp [results, Try.results93, go_sem, refV, HR.out]) rfl ⟨rfl, by (repeat' (first | (with_reducible exact Below.refl _ _) | (with_reducible assumption) | (with_reducible refine below_dn ?_ _) | (with_reducible refine Below.drew ?_) | (with_reducible refine Below.alloc ?_ ?_ _) | (with_reducible refine Below.setCell ?_ ?_ _) | go_size))⟩

set_option maxRecDepth 1000000 in
theorem one_bad3 (g n cap pos : Nat) (l : List UInt8) (w : World) (hl : l.length = n) (hn : n ≤ 4194304) (hp : pos < n) (hB : BytesAt w g l) (hlong : U.long (U.by_ l pos) = 4) (h0 : 240 ≤ U.by_ l pos) (h0' : U.by_ l pos ≤ 244) (hs : pos + 1 < n) (hsec : U.snd (U.by_ l pos) (U.by_ l (pos + 1)) = true) (h1 : 128 ≤ U.by_ l (pos + 1)) (h1' : U.by_ l (pos + 1) ≤ 191) (hs2 : pos + 2 < n) (hm2 : moreB l (pos + 2) = true) (h2 : 128 ≤ U.by_ l (pos + 2)) (h2' : U.by_ l (pos + 2) ≤ 191) (hm3 : moreB l (pos + 3) = false) :
    Calls Try.prog 93 #[.slice (some ⟨g, 0, none⟩) n cap, .int .i64 (pos : Int)] w fun e w' => e = .returned (refV pos 1 65533 true) ∧ Below w.heap.size w w' := by
  have hb := U.by_lt l pos
  have hb1 := U.by_lt l (pos + 1)
  have hc := hB pos (by omega)
  have hc1 := hB (pos + 1) (by omega)
  have hlt := World.block_lt_of_cell? w _ hc
  have hca : ∀ o : Obj, (w.alloc o).cell? ⟨g, pos, none⟩ = some (.int .u8 (U.by_ l pos : Int)) := fun o => (World.cell?_of_block (Below.heap_alloc w o g hlt)).trans hc
  have hcb : ∀ o o' : Obj, ((w.alloc o).alloc o').cell? ⟨g, pos, none⟩ = some (.int .u8 (U.by_ l pos : Int)) := fun o o' => (World.cell?_of_block (Below.heap_alloc _ o' g (by simp; exact Nat.lt_succ_of_lt hlt))).trans (hca o)
  have hcb1 : ∀ o o' : Obj, ((w.alloc o).alloc o').cell? ⟨g, pos + 1, none⟩ = some (.int .u8 (U.by_ l (pos + 1) : Int)) := fun o o' => (World.cell?_of_block (Below.heap_alloc _ o' g (by simp; exact Nat.lt_succ_of_lt hlt))).trans ((World.cell?_of_block (Below.heap_alloc w o g hlt)).trans hc1)
  have HB := Lib.hid (show ∀ (o o' : Obj) (m : Nat), BytesAt (((w.alloc o).alloc o').drewN m) g l from fun o o' m => (hB.below ((Below.refl _ _).alloc (Nat.le_refl _) o)).below (below_dn ((Below.refl _ _).alloc (Nat.le_refl _) o') m))
  have HL := Lib.hid hlong
  have HS := Lib.hid hsec
  have hd : decide ((n : Int) ≤ (pos : Int) + 1) = false := decide_eq_false (by omega)
  have M2 := Lib.hid hm2
  have M3 := Lib.hid hm3
  clear hm2 hm3
  clear hlong hsec hB
  go_enter Try.func93, Try.ntmps93
  go_wp2_with (go_at_call 100; refine (long_any _ _ hb).mono ?_; rintro e w' ⟨rfl, rfl⟩; rw [HL.out])
  go_quiet ((go_at_call 101; exact Calls.quiet_of_same ((second_any _ _ _ hb hb1).mono fun _ _ h => ⟨h.1.trans (by rw [HS.out]), h.2.symm⟩)))
  go_wp2_with (first | (go_at_call 102; refine (rest_i g n cap _ (pos + 1) l _ hl hn ?_ hs (HB.out _ _ _)).mono ?_; (omega); rintro e w' ⟨rfl, rfl⟩) | (go_at_call 102; refine (rest_i g n cap _ (pos + 2) l _ hl hn ?_ hs2 (HB.out _ _ _)).mono ?_; (omega); rintro e w' ⟨rfl, rfl⟩) | (go_at_call 103; refine (more_i g n cap _ (pos + 2) true l _ hl hn ?_ M2.out (HB.out _ _ _)).mono ?_; (omega); rintro e w' ⟨rfl, rfl⟩) | (go_at_call 103; refine (more_i g n cap _ (pos + 3) false l _ hl hn ?_ M3.out (HB.out _ _ _)).mono ?_; (omega); rintro e w' ⟨rfl, rfl⟩))
  refine wp_loop_rounds 2 ?_
  repeat any_goals (rw [rounds_succ]; go_wp2_with (first | (go_at_call 102; refine (rest_i g n cap _ (pos + 1) l _ hl hn ?_ hs (HB.out _ _ _)).mono ?_; (omega); rintro e w' ⟨rfl, rfl⟩) | (go_at_call 102; refine (rest_i g n cap _ (pos + 2) l _ hl hn ?_ hs2 (HB.out _ _ _)).mono ?_; (omega); rintro e w' ⟨rfl, rfl⟩) | (go_at_call 103; refine (more_i g n cap _ (pos + 2) true l _ hl hn ?_ M2.out (HB.out _ _ _)).mono ?_; (omega); rintro e w' ⟨rfl, rfl⟩) | (go_at_call 103; refine (more_i g n cap _ (pos + 3) false l _ hl hn ?_ M3.out (HB.out _ _ _)).mono ?_; (omega); rintro e w' ⟨rfl, rfl⟩)))
  exact bodyPost_ret (v := refV pos 1 65533 true) (by simp [results, Try.results93, go_sem, refV]) rfl ⟨rfl, by (repeat' (first | (with_reducible exact Below.refl _ _) | (with_reducible assumption) | (with_reducible refine below_dn ?_ _) | (with_reducible refine Below.drew ?_) | (with_reducible refine Below.alloc ?_ ?_ _) | (with_reducible refine Below.setCell ?_ ?_ _) | go_size))⟩

set_option maxRecDepth 1000000 in
theorem one_four (g n cap pos : Nat) (l : List UInt8) (w : World) (hl : l.length = n) (hn : n ≤ 4194304) (hp : pos < n) (hB : BytesAt w g l) (hlong : U.long (U.by_ l pos) = 4) (h0 : 240 ≤ U.by_ l pos) (h0' : U.by_ l pos ≤ 244) (hs : pos + 1 < n) (hsec : U.snd (U.by_ l pos) (U.by_ l (pos + 1)) = true) (h1 : 128 ≤ U.by_ l (pos + 1)) (h1' : U.by_ l (pos + 1) ≤ 191) (hs2 : pos + 2 < n) (hm2 : moreB l (pos + 2) = true) (h2 : 128 ≤ U.by_ l (pos + 2)) (h2' : U.by_ l (pos + 2) ≤ 191) (hs3 : pos + 3 < n) (hm3 : moreB l (pos + 3) = true) (h3 : 128 ≤ U.by_ l (pos + 3)) (h3' : U.by_ l (pos + 3) ≤ 191) :
    Calls Try.prog 93 #[.slice (some ⟨g, 0, none⟩) n cap, .int .i64 (pos : Int)] w fun e w' => e = .returned (refV pos 4 ((U.by_ l pos - 240) * 262144 + (U.by_ l (pos + 1) - 128) * 4096 + (U.by_ l (pos + 2) - 128) * 64 + (U.by_ l (pos + 3) - 128)) false) ∧ Below w.heap.size w w' := by
  have hb := U.by_lt l pos
  have hb1 := U.by_lt l (pos + 1)
  have hc := hB pos (by omega)
  have hc1 := hB (pos + 1) (by omega)
  have hlt := World.block_lt_of_cell? w _ hc
  have hca : ∀ o : Obj, (w.alloc o).cell? ⟨g, pos, none⟩ = some (.int .u8 (U.by_ l pos : Int)) := fun o => (World.cell?_of_block (Below.heap_alloc w o g hlt)).trans hc
  have hcb : ∀ o o' : Obj, ((w.alloc o).alloc o').cell? ⟨g, pos, none⟩ = some (.int .u8 (U.by_ l pos : Int)) := fun o o' => (World.cell?_of_block (Below.heap_alloc _ o' g (by simp; exact Nat.lt_succ_of_lt hlt))).trans (hca o)
  have hcb1 : ∀ o o' : Obj, ((w.alloc o).alloc o').cell? ⟨g, pos + 1, none⟩ = some (.int .u8 (U.by_ l (pos + 1) : Int)) := fun o o' => (World.cell?_of_block (Below.heap_alloc _ o' g (by simp; exact Nat.lt_succ_of_lt hlt))).trans ((World.cell?_of_block (Below.heap_alloc w o g hlt)).trans hc1)
  have HB := Lib.hid (show ∀ (o o' : Obj) (m : Nat), BytesAt (((w.alloc o).alloc o').drewN m) g l from fun o o' m => (hB.below ((Below.refl _ _).alloc (Nat.le_refl _) o)).below (below_dn ((Below.refl _ _).alloc (Nat.le_refl _) o') m))
  have HR := Lib.hid (show 64 * (64 * ((U.by_ l (pos + 1) : Int) - 128) + ((U.by_ l (pos + 2) : Int) - 128)) + ((U.by_ l (pos + 3) : Int) - 128) + 262144 * ((U.by_ l pos : Int) - 240) = (((U.by_ l pos - 240) * 262144 + (U.by_ l (pos + 1) - 128) * 4096 + (U.by_ l (pos + 2) - 128) * 64 + (U.by_ l (pos + 3) - 128)) : Nat) by omega)
  have HL := Lib.hid hlong
  have HS := Lib.hid hsec
  have hd : decide ((n : Int) ≤ (pos : Int) + 1) = false := decide_eq_false (by omega)
  have M2 := Lib.hid hm2
  have M3 := Lib.hid hm3
  clear hm2 hm3
  clear hlong hsec hB
  go_enter Try.func93, Try.ntmps93
  go_wp2_with (go_at_call 100; refine (long_any _ _ hb).mono ?_; rintro e w' ⟨rfl, rfl⟩; rw [HL.out])
  go_quiet ((go_at_call 101; exact Calls.quiet_of_same ((second_any _ _ _ hb hb1).mono fun _ _ h => ⟨h.1.trans (by rw [HS.out]), h.2.symm⟩)))
  go_wp2_with (first | (go_at_call 102; refine (rest_i g n cap _ (pos + 1) l _ hl hn ?_ hs (HB.out _ _ _)).mono ?_; (omega); rintro e w' ⟨rfl, rfl⟩) | (go_at_call 102; refine (rest_i g n cap _ (pos + 2) l _ hl hn ?_ hs2 (HB.out _ _ _)).mono ?_; (omega); rintro e w' ⟨rfl, rfl⟩) | (go_at_call 102; refine (rest_i g n cap _ (pos + 3) l _ hl hn ?_ hs3 (HB.out _ _ _)).mono ?_; (omega); rintro e w' ⟨rfl, rfl⟩) | (go_at_call 103; refine (more_i g n cap _ (pos + 2) true l _ hl hn ?_ M2.out (HB.out _ _ _)).mono ?_; (omega); rintro e w' ⟨rfl, rfl⟩) | (go_at_call 103; refine (more_i g n cap _ (pos + 3) true l _ hl hn ?_ M3.out (HB.out _ _ _)).mono ?_; (omega); rintro e w' ⟨rfl, rfl⟩))
  refine wp_loop_rounds 3 ?_
  repeat any_goals (rw [rounds_succ]; go_wp2_with (first | (go_at_call 102; refine (rest_i g n cap _ (pos + 1) l _ hl hn ?_ hs (HB.out _ _ _)).mono ?_; (omega); rintro e w' ⟨rfl, rfl⟩) | (go_at_call 102; refine (rest_i g n cap _ (pos + 2) l _ hl hn ?_ hs2 (HB.out _ _ _)).mono ?_; (omega); rintro e w' ⟨rfl, rfl⟩) | (go_at_call 102; refine (rest_i g n cap _ (pos + 3) l _ hl hn ?_ hs3 (HB.out _ _ _)).mono ?_; (omega); rintro e w' ⟨rfl, rfl⟩) | (go_at_call 103; refine (more_i g n cap _ (pos + 2) true l _ hl hn ?_ M2.out (HB.out _ _ _)).mono ?_; (omega); rintro e w' ⟨rfl, rfl⟩) | (go_at_call 103; refine (more_i g n cap _ (pos + 3) true l _ hl hn ?_ M3.out (HB.out _ _ _)).mono ?_; (omega); rintro e w' ⟨rfl, rfl⟩)))
  exact bodyPost_ret (v := refV pos 4 _ false) (by simp [results, Try.results93, go_sem, refV, HR.out]) rfl ⟨rfl, by (repeat' (first | (with_reducible exact Below.refl _ _) | (with_reducible assumption) | (with_reducible refine below_dn ?_ _) | (with_reducible refine Below.drew ?_) | (with_reducible refine Below.alloc ?_ ?_ _) | (with_reducible refine Below.setCell ?_ ?_ _) | go_size))⟩
end Go.Proofs.Ytclblidfamabdaa

/- ref.Signs: the signs of a text, as the reference tells them. -/
set_option linter.unusedVariables false
namespace Go.Proofs.Ytclblidfamabdaa
open Go.RowKit Go.Lib

theorem by_drop (l : List UInt8) (pos j : Nat) : U.by_ (l.drop pos) j = U.by_ l (pos + j) := by
  unfold U.by_; simp [List.getD_eq_getElem?_getD, List.getElem?_drop]

theorem moreB_is (l : List UInt8) (pos : Nat) : moreB l pos = true ↔ pos < l.length ∧ 128 ≤ U.by_ l pos ∧ U.by_ l pos ≤ 191 := by
  unfold moreB U.cont; simp

set_option maxRecDepth 1000000 in
theorem one_any (g cap pos : Nat) (l : List UInt8) (w : World) (hn : l.length ≤ 4194304) (hp : pos < l.length) (hB : BytesAt w g l) :
    Calls Try.prog 93 #[.slice (some ⟨g, 0, none⟩) l.length cap, .int .i64 (pos : Int)] w fun e w' =>
      e = .returned (refV pos (U.dec (l.drop pos)).2 (U.dec (l.drop pos)).1 (U.isBad (U.dec (l.drop pos)))) ∧ Below w.heap.size w w' := by
  have hdec : U.dec (l.drop pos) = U.decM (l.length - pos) (U.by_ l pos) (U.by_ l (pos + 1)) (U.by_ l (pos + 2)) (U.by_ l (pos + 3)) := by
    unfold U.dec
    rw [by_drop, by_drop, by_drop, by_drop, List.length_drop, Nat.add_zero]
  rw [hdec, U.decM_long]
  have nb : ∀ c k : Nat, c ≠ 65533 ∨ k ≠ 1 → U.isBad (c, k) = false := fun c k h => by
    unfold U.isBad; rcases h with h | h <;> simp [h]
  by_cases l1 : U.long (U.by_ l pos) = 1
  · rw [if_pos l1, nb _ _ (.inl (by have := U.by_lt l pos; omega))]
    exact one_ascii g _ cap pos l w rfl hn hp hB l1
  rw [if_neg l1]
  by_cases l0 : U.long (U.by_ l pos) = 0
  · rw [if_pos l0]
    exact one_zero g _ cap pos l w rfl hn hp hB l0
  rw [if_neg l0]
  have lk : (U.long (U.by_ l pos) = 2 ∧ 194 ≤ U.by_ l pos ∧ U.by_ l pos ≤ 223) ∨ (U.long (U.by_ l pos) = 3 ∧ 224 ≤ U.by_ l pos ∧ U.by_ l pos ≤ 239) ∨ (U.long (U.by_ l pos) = 4 ∧ 240 ≤ U.by_ l pos ∧ U.by_ l pos ≤ 244) := by
    revert l1 l0
    unfold U.long
    by_cases a1 : U.by_ l pos < 128
    · rw [if_pos a1]; intro h; exact absurd rfl h
    rw [if_neg a1]
    by_cases a2 : 194 ≤ U.by_ l pos ∧ U.by_ l pos ≤ 223
    · rw [if_pos a2]; intro _ _; exact .inl ⟨rfl, a2⟩
    rw [if_neg a2]
    by_cases a3 : 224 ≤ U.by_ l pos ∧ U.by_ l pos ≤ 239
    · rw [if_pos a3]; intro _ _; exact .inr (.inl ⟨rfl, a3⟩)
    rw [if_neg a3]
    by_cases a4 : 240 ≤ U.by_ l pos ∧ U.by_ l pos ≤ 244
    · rw [if_pos a4]; intro _ _; exact .inr (.inr ⟨rfl, a4⟩)
    · rw [if_neg a4]; intro _ h; exact absurd rfl h
  by_cases s1 : l.length - pos < 2 ∨ U.snd (U.by_ l pos) (U.by_ l (pos + 1)) = false
  · rw [if_pos s1]
    by_cases s0 : pos + 1 < l.length
    · exact one_second g _ cap pos _ l w rfl hn hp hB rfl (by omega) (by omega) s0 (s1.resolve_left (by omega))
    · exact one_short g _ cap pos _ l w rfl hn hp hB rfl (by omega) (by omega) s0
  rw [if_neg s1]
  have hs : pos + 1 < l.length := by have : ¬ l.length - pos < 2 := fun h => s1 (.inl h); omega
  have hsec : U.snd (U.by_ l pos) (U.by_ l (pos + 1)) = true := by
    cases h : U.snd (U.by_ l pos) (U.by_ l (pos + 1)) with
    | true => rfl
    | false => exact absurd (.inr h) s1
  have h11 : 128 ≤ U.by_ l (pos + 1) ∧ U.by_ l (pos + 1) ≤ 191 := by
    have h : U.lo2 (U.by_ l pos) ≤ U.by_ l (pos + 1) ∧ U.by_ l (pos + 1) ≤ U.hi2 (U.by_ l pos) := of_decide_eq_true hsec
    have a := U.lo2_is (U.by_ l pos)
    have b := U.hi2_is (U.by_ l pos)
    omega
  rcases lk with ⟨k, a, b⟩ | ⟨k, a, b⟩ | ⟨k, a, b⟩
  · rw [if_pos k, nb _ _ (.inr (by omega))]
    exact one_two g _ cap pos l w rfl hn hp hB k a b hs hsec h11.1 h11.2
  · rw [if_neg (by omega), if_pos k]
    by_cases m2 : moreB l (pos + 2) = true
    · obtain ⟨c1, c2, c3⟩ := (moreB_is l (pos + 2)).1 m2
      rw [if_neg (by intro h; rcases h with h | h; omega; unfold U.cont at h; simp at h; omega), nb _ _ (.inr (by omega))]
      exact one_three g _ cap pos l w rfl hn hp hB k a b hs hsec h11.1 h11.2 c1 m2 c2 c3
    · have m2' : moreB l (pos + 2) = false := by simpa using m2
      rw [if_pos (by
        by_cases q : l.length - pos < 3
        · exact .inl q
        · refine .inr ?_
          unfold moreB at m2'
          rwa [decide_eq_true (by omega), Bool.true_and] at m2')]
      exact one_bad2 g _ cap pos 3 l w rfl hn hp hB k (by omega) (by omega) hs hsec h11.1 h11.2 m2'
  · rw [if_neg (by omega)]
    by_cases m2 : moreB l (pos + 2) = true
    · obtain ⟨c1, c2, c3⟩ := (moreB_is l (pos + 2)).1 m2
      rw [if_neg (by intro h; rcases h with h | h; omega; unfold U.cont at h; simp at h; omega), if_neg (by omega)]
      by_cases m3 : moreB l (pos + 3) = true
      · obtain ⟨d1, d2, d3⟩ := (moreB_is l (pos + 3)).1 m3
        rw [if_neg (by intro h; rcases h with h | h; omega; unfold U.cont at h; simp at h; omega), nb _ _ (.inr (by omega))]
        exact one_four g _ cap pos l w rfl hn hp hB k a b hs hsec h11.1 h11.2 c1 m2 c2 c3 d1 m3 d2 d3
      · have m3' : moreB l (pos + 3) = false := by simpa using m3
        rw [if_pos (by
          by_cases q : l.length - pos < 4
          · exact .inl q
          · refine .inr ?_
            unfold moreB at m3'
            rwa [decide_eq_true (by omega), Bool.true_and] at m3')]
        exact one_bad3 g _ cap pos l w rfl hn hp hB k a b hs hsec h11.1 h11.2 c1 m2 c2 c3 m3'
    · have m2' : moreB l (pos + 2) = false := by simpa using m2
      rw [if_pos (by
        by_cases q : l.length - pos < 3
        · exact .inl q
        · refine .inr ?_
          unfold moreB at m2'
          rwa [decide_eq_true (by omega), Bool.true_and] at m2')]
      exact one_bad2 g _ cap pos 4 l w rfl hn hp hB k (by omega) (by omega) hs hsec h11.1 h11.2 m2'

/-- A sign's cells, as ref has them. -/
def cellR (x : U.Sg) : List Value := [.int .i64 (x.at_ : Int), .int .i64 (x.len : Int), .int .i64 (x.rune : Int), .bool x.bad]
def cellsR (l : List U.Sg) : List Value := l.flatMap cellR
theorem cellsR_snoc (l : List U.Sg) (x : U.Sg) : cellsR (l ++ [x]) = cellsR l ++ cellR x := by simp [cellsR]

theorem Try.infoSr : (Try.prog.info? 103).map (fun i => (i.zero, i.size, i.bytes)) = some (some (.agg #[.int .i64 0, .int .i64 0, .int .i64 0, .bool false]), 4, 32) := by kernel_rfl
theorem bytesAt_new (W : World) (e : TypeId) (s : ByteArray) : BytesAt (Lib.bytesWorld W e s) W.heap.size s.data.toList := fun j hj => by
  rw [Lib.bytesWorld_cell W e s j (by rw [U.size_eq]; exact hj)]; rfl

set_option maxRecDepth 1000000 in
theorem signsR_any (s : ByteArray) (w : World) (hs : s.size ≤ 4194304) :
    Calls Try.prog 74 #[.string s] w fun e w' => ∃ v, e = .returned v ∧ Below w.heap.size w w' ∧
      w'.ownsRow w.heap.size 103 4 v (U.signs s.data.toList).length (cellsR (U.signs s.data.toList)) := by
  obtain ⟨i0, hi, hz0, hz1, hz2⟩ := info_parts Try.infoSr
  obtain ⟨W1, cap, kb, hbw, hbz, hbb⟩ : ∃ W1 cap, (convert 9 77 (.string s)).run Try.prog w = .ok (.slice (some ⟨w.heap.size, 0, none⟩) s.size cap) W1 ∧ Below w.heap.size w W1 ∧ W1.heap.size = w.heap.size + 1 ∧ BytesAt W1 w.heap.size s.data.toList :=
    ⟨_, _, Lib.run_convert_string_bytes w 9 77 5 s Try.underlying9 Try.underlying77 Try.underlying5,
      ⟨rfl, rfl, rfl, by rw [Lib.bytesWorld_size]; omega, fun i hi => Lib.bytesWorld_at_old w _ s i hi⟩, Lib.bytesWorld_size w _ s, bytesAt_new w _ s⟩
  have hss := U.size_eq s
  obtain ⟨L, hL⟩ : ∃ L, s.data.toList = L := ⟨_, rfl⟩
  rw [hL] at hbb hss
  rw [hL]
  clear hL
  have HSZ := Lib.hid hss
  have hsl : L.length ≤ 4194304 := by omega
  clear hss
  go_enter Try.func74, Try.ntmps74
  go_wp2
  go_loopw [4, 5] (fun o a wr => ∃ (pos : Nat) (pre : List U.Sg), a = .int .i64 (pos : Int) ∧ pos ≤ s.size ∧ Below w.heap.size w wr ∧ BytesAt wr w.heap.size L ∧ w.heap.size + 1 ≤ wr.heap.size ∧ wr.ownsRow (w.heap.size + 1) 103 4 o pre.length (cellsR pre) ∧ U.signs L = pre ++ U.put pos (U.toks (L.drop pos)) ∧ pre.length ≤ pos) (fun _ a _ => s.size - (RowKit.intOf a).toNat)
  case atStart => exact ⟨0, [], rfl, Nat.zero_le _, hbw, hbb, by omega, World.ownsRow_nil _ _ _ _, rfl, Nat.le_refl _⟩
  case round =>
    obtain ⟨pos, pre, rfl, hps, hB, hBA, hsz, hrow, hx, hpl⟩ := hrel
    by_cases hp : pos < s.size
    · have hp' : pos < L.length := by rw [← HSZ.out]; exact hp
      have hne : L.drop pos ≠ [] := by intro h; have := congrArg List.length h; rw [List.length_drop] at this; simp at this; omega
      have hd := U.dec_facts (L.drop pos) hne
      rw [List.length_drop] at hd
      have hx1 : U.signs L = (pre ++ [⟨pos, (U.dec (L.drop pos)).2, (U.dec (L.drop pos)).1, U.isBad (U.dec (L.drop pos))⟩]) ++ U.put (pos + (U.dec (L.drop pos)).2) (U.toks (L.drop (pos + (U.dec (L.drop pos)).2))) := by
        rw [hx, U.toks_ne _ hne, List.drop_drop]; simp [U.put]
      have one := one_any w.heap.size cap pos L wr hsl hp' hBA
      rw [← HSZ.out] at one
      obtain ⟨c, wd, hdec⟩ : ∃ c wd, U.dec (L.drop pos) = (c, wd) := ⟨_, _, rfl⟩
      rw [hdec] at hd hx1 one
      simp only at hd hx1 one
      obtain ⟨bd, hbd⟩ : ∃ bd, U.isBad (c, wd) = bd := ⟨_, rfl⟩
      rw [hbd] at hx1 one
      have HX := Lib.hid hx1
      have HO := Lib.hid one
      have HD := Lib.hid hd
      have hdw : pos + wd ≤ s.size := by have := HSZ.out; omega
      clear hx hx1 one hd hdec hbd hne kb
      have hle : ∀ k, Value.ownBlock u4 = some k → k < wr.heap.size := fun k e => (hrow.lt k e).2
      go_wp2_with (first | (go_at_call 93; refine HO.out.mono ?_; rintro e w1 ⟨rfl, hb1⟩; unfold refV; clear HO) | (at_builtin; go_must (refine wpList_append_own _ rfl _ _ 100 rfl (w.heap.size + 1) 103 i0 _ 4 32 Try.underlying100 hi hz0 hz1 hz2 rfl (by decide) _ _ _ rfl (((own_below hrow hb1).alloc _).alloc _) ⟨w1.heap.size + 1, 0, none⟩ 1 1 (cellR ⟨pos, wd, c, bd⟩) rfl rfl (news2 w1 _ _ _) (by simp [cellR, Value.oneCell']) (by unfold maxLen; omega) (by omega) (by have := hb1.size; simp; omega) ?_); intro v' w2 hown hg _; have hx2 : w2.cell? ⟨w1.heap.size, 1, none⟩ = some (.int .i64 (wd : Int)) := hg.cell (cell_new2 w1 _ _ _ 1 _ rfl) (fun e => by have := hle _ e.symm; have := hb1.size; simp at *; omega)))
      have hd := HD.out
      have hb2 : Below w.heap.size w w2 := ((hB.trans (hb1.mono hB.size)).trans (((Below.refl w.heap.size w1).alloc (by have := hb1.size; omega) _).alloc (by have := hb1.size; simp; omega) _)).grown hg (by have := hb1.size; simp; omega) (fun k e => by have := (hrow.lt k e).1; omega)
      have hw2 : wr.heap.size ≤ w2.heap.size := by have h1 := hb1.size; have h2 := hg.size; simp at h2; omega
      go_roundw
      case rel =>
        refine ⟨pos + wd, pre ++ [⟨pos, wd, c, bd⟩], by go_num, by omega, hb2, ?_, by omega, ?_, HX.out, by simp; omega⟩
        · intro j hj
          have h1 := (hBA.below hb1) j hj
          have hlt : w.heap.size < w1.heap.size := by have := hb1.size; omega
          refine hg.cell (a := ⟨w.heap.size, j, none⟩) ?_ (fun e => by have := (hrow.lt _ e.symm).1; simp at this; omega)
          rw [World.cell?_of_block (w := w1.alloc _) (Below.heap_alloc _ _ _ (by simp; omega)), World.cell?_of_block (w := w1) (Below.heap_alloc _ _ _ hlt)]
          exact h1
        · rw [List.length_append, cellsR_snoc]; exact hown
      case measure =>
        simp [RowKit.intOf]
        omega
    · have hpl' : pos = L.length := by have := HSZ.out; omega
      rw [hpl', List.drop_length, U.toks_nil, U.put, List.append_nil] at hx
      have HX := Lib.hid hx
      clear hx
      go_wp2
      go_ret
      refine ⟨_, rfl, hB, ?_⟩
      rw [HX.out]
      exact ownsRow_base hrow (by omega)
end Go.Proofs.Ytclblidfamabdaa
