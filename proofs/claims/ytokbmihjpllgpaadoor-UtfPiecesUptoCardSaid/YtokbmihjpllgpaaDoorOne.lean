/- ref.one: the sign that begins at a place of bytes. -/
import Derived.Test.YtokbmihjpllgpaaDoorSmall
import Derived.Lib.ConvBytes
import Derived.Deep.QuietTactic
import Derived.BigQuiet
import Derived.Handy
set_option linter.unusedVariables false
namespace Go.Proofs.YtokbmihjpllgpaaDoor
open Go.RowKit Go.Lib

/-- The bytes of l lie at block g. -/
def BytesAt (W : World) (g : Nat) (l : List UInt8) : Prop := ∀ j, j < l.length → W.cell? ⟨g, j, none⟩ = some (.int .u8 (U.by_ l j : Int))
theorem BytesAt.below {W W' : World} {g : Nat} {l : List UInt8} (h : BytesAt W g l) (hb : Below W.heap.size W W') : BytesAt W' g l :=
  fun j hj => (hb.cell (World.block_lt_of_cell? W _ (h j hj))).trans (h j hj)

set_option maxRecDepth 1000000 in
theorem long_any (c : Nat) (w : World) (hc : c < 256) : Calls Tryd.prog 29 #[.int .u8 (c : Int)] w fun e w' => e = .returned (.int .i64 (U.long c : Int)) ∧ w = w' := by
  have H := Lib.hid (show U.long c = if c < 128 then 1 else if 194 ≤ c ∧ c ≤ 223 then 2 else if 224 ≤ c ∧ c ≤ 239 then 3 else if 240 ≤ c ∧ c ≤ 244 then 4 else 0 from rfl)
  go_enter Tryd.func29, Tryd.ntmps29
  go_wp2
  all_goals
    go_ret
    refine ⟨r_int ?_, rfl⟩
    rw [H.out]
    first | (rw [if_pos (by omega)]; rfl) | (rw [if_neg (by omega), if_pos (by omega)]; rfl) | (rw [if_neg (by omega), if_neg (by omega), if_pos (by omega)]; rfl) | (rw [if_neg (by omega), if_neg (by omega), if_neg (by omega), if_pos (by omega)]; rfl) | (rw [if_neg (by omega), if_neg (by omega), if_neg (by omega), if_neg (by omega)]; rfl)

set_option maxRecDepth 1000000 in
theorem second_any (c d : Nat) (w : World) (hc : c < 256) (hd : d < 256) : Calls Tryd.prog 30 #[.int .u8 (c : Int), .int .u8 (d : Int)] w fun e w' => e = .returned (.bool (U.snd c d)) ∧ w = w' := by
  have h : c = 224 ∨ c = 237 ∨ c = 240 ∨ c = 244 ∨ (c ≠ 224 ∧ c ≠ 237 ∧ c ≠ 240 ∧ c ≠ 244) := by omega
  rcases h with rfl | rfl | rfl | rfl | ⟨h1, h2, h3, h4⟩
  · have H := Lib.hid (show U.snd 224 d = decide (160 ≤ d ∧ d ≤ 191) from rfl)
    go_enter Tryd.func30, Tryd.ntmps30
    go_wp2
    all_goals
      go_ret
      refine ⟨r_bool ?_, rfl⟩
      rw [H.out]
      first | (symm; rw [decide_eq_true_eq]; omega) | (symm; rw [decide_eq_false_iff_not]; omega) | (apply decide_eq_decide.2; omega)
  · have H := Lib.hid (show U.snd 237 d = decide (128 ≤ d ∧ d ≤ 159) from rfl)
    go_enter Tryd.func30, Tryd.ntmps30
    go_wp2
    all_goals
      go_ret
      refine ⟨r_bool ?_, rfl⟩
      rw [H.out]
      first | (symm; rw [decide_eq_true_eq]; omega) | (symm; rw [decide_eq_false_iff_not]; omega) | (apply decide_eq_decide.2; omega)
  · have H := Lib.hid (show U.snd 240 d = decide (144 ≤ d ∧ d ≤ 191) from rfl)
    go_enter Tryd.func30, Tryd.ntmps30
    go_wp2
    all_goals
      go_ret
      refine ⟨r_bool ?_, rfl⟩
      rw [H.out]
      first | (symm; rw [decide_eq_true_eq]; omega) | (symm; rw [decide_eq_false_iff_not]; omega) | (apply decide_eq_decide.2; omega)
  · have H := Lib.hid (show U.snd 244 d = decide (128 ≤ d ∧ d ≤ 143) from rfl)
    go_enter Tryd.func30, Tryd.ntmps30
    go_wp2
    all_goals
      go_ret
      refine ⟨r_bool ?_, rfl⟩
      rw [H.out]
      first | (symm; rw [decide_eq_true_eq]; omega) | (symm; rw [decide_eq_false_iff_not]; omega) | (apply decide_eq_decide.2; omega)
  · have H := Lib.hid (show U.snd c d = decide (128 ≤ d ∧ d ≤ 191) by unfold U.snd; rw [(U.lo2_is c).2.2.2.2 h1 h3, (U.hi2_is c).2.2.2.2 h2 h4])
    go_enter Tryd.func30, Tryd.ntmps30
    go_wp2
    all_goals
      go_ret
      refine ⟨r_bool ?_, rfl⟩
      rw [H.out]
      first | (symm; rw [decide_eq_true_eq]; omega) | (symm; rw [decide_eq_false_iff_not]; omega) | (apply decide_eq_decide.2; omega)

/-- Is a byte one that goes on? -/
def moreB (l : List UInt8) (pos : Nat) : Bool := decide (pos < l.length) && U.cont (U.by_ l pos)
theorem more_any (g n cap pos : Nat) (l : List UInt8) (w : World) (hl : l.length = n) (hn : n ≤ 4194304) (hB : BytesAt w g l) :
    Calls Tryd.prog 31 #[.slice (some ⟨g, 0, none⟩) n cap, .int .i64 (pos : Int)] w fun e w' => e = .returned (.bool (moreB l pos)) ∧ w = w' := by
  subst hl
  have hb := U.by_lt l pos
  by_cases hp : pos < l.length
  · have H := Lib.hid (show moreB l pos = decide (128 ≤ U.by_ l pos ∧ U.by_ l pos ≤ 191) by unfold moreB; rw [decide_eq_true hp]; rfl)
    have hc := hB pos (by omega)
    go_enter Tryd.func31, Tryd.ntmps31
    go_wp2
    all_goals
      go_ret
      refine ⟨r_bool ?_, rfl⟩
      rw [H.out]
      first | (symm; rw [decide_eq_true_eq]; omega) | (symm; rw [decide_eq_false_iff_not]; omega) | (apply decide_eq_decide.2; omega)
  · have H := Lib.hid (show moreB l pos = false by unfold moreB; rw [decide_eq_false hp]; rfl)
    go_enter Tryd.func31, Tryd.ntmps31
    go_wp2
    go_ret
    exact ⟨r_bool H.out.symm, rfl⟩

theorem more_i (g n cap : Nat) (q : Int) (pos : Nat) (b : Bool) (l : List UInt8) (w : World) (hl : l.length = n) (hn : n ≤ 4194304) (hq : q = (pos : Int)) (hb : moreB l pos = b) (hB : BytesAt w g l) :
    Calls Tryd.prog 31 #[.slice (some ⟨g, 0, none⟩) n cap, .int .i64 q] w fun e w' => e = .returned (.bool b) ∧ w = w' := by
  subst hq; subst hb; exact more_any g n cap pos l w hl hn hB

/-- ref's sign as a value. -/
def refV (a n c : Nat) (b : Bool) : Value := .agg #[.int .i64 (a : Int), .int .i64 (n : Int), .int .i64 (c : Int), .bool b]

end Go.Proofs.YtokbmihjpllgpaaDoor
