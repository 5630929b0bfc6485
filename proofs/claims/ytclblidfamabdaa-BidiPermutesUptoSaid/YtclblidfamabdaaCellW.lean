/- The widths of runes: what the program's and the document's four range functions answer. -/
import Derived.Test.YtclblidfamabdaaTst
import Derived.Test.YtclblidfamabdaaCellP
set_option linter.unusedVariables false
set_option linter.unusedSimpArgs false
namespace Go.Proofs.Ytclblidfamabdaa
open Go.RowKit Go.Shelf Go.Lib
attribute [local go_sem] Oper.semAt_some

theorem ret_int {k : IntKind} {a b : Int} (h : a = b) : Ending.returned (.int k a) = .returned (.int k b) := by rw [h]
theorem ret_bool {a b : Bool} (h : a = b) : Ending.returned (.bool a) = .returned (.bool b) := by rw [h]
theorem eq_range (r c : Int) : (r == c) = (decide (c ≤ r) && decide (r ≤ c)) := by rw [Bool.eq_iff_iff]; simp; omega
theorem lt_range (r c : Int) : decide (r < c) = decide (r ≤ c - 1) := by rw [Bool.eq_iff_iff]; simp; omega
theorem ret_slot {P : Program} {fn : Func} {R : Ending → World → Prop} {a : Act} {w : World} {d : Nat} {v : Value} (h : fn.results = #[.tmp d]) (hd : a.defers = []) (e : a.eval (.tmp d) = v) (hR : R (.returned v) w) : bodyPost P fn R .ret a w :=
  bodyPost_ret (results_tmp h _ _ _) hd (by rw [show a.tmps.getD d undef = v from e]; exact hR)
theorem if_key {b : Bool} {u v : Value} (h : (if b = true then some v else none) = some u) : b = true ∧ v = u := by
  cases b
  · cases h
  · exact ⟨rfl, Option.some.inj h⟩
theorem if_none {b : Bool} {v : Value} (h : (if b = true then some v else none) = none) : b = false := by
  cases b
  · rfl
  · cases h
theorem if_or {α : Type} (a b : Bool) (x y : α) : (if a then x else if b then x else y) = if a || b then x else y := by cases a <;> rfl

set_option maxRecDepth 1000000 in
theorem nothing_any (r : Int) (w : World) : Calls Try.prog 98 #[.int .i32 r] w fun e w' => e = .returned (.bool (C.no r)) ∧ w = w' := by
  go_enter Try.func98, Try.ntmps98
  refine wp_seq (wp_region_lit (wpl_val _ rfl (run_assign _ _ rfl) ?_))
  refine wp_seq (wp_block ?_)
  apply sw_use (n := 191) (r := r) (res := 2)
  · repeat (first | exact sw_skip | apply sw_case | apply tst_or | apply tst_range | apply tst_rlt | apply tst_eq | decide)
  · exact ⟨rfl, rfl, rfl⟩
  · intro u hu a' ha' e
    simp only [if_or] at hu
    obtain ⟨hb, rfl⟩ := if_key hu
    have hv : C.no r = true := (by rw [← hb]; simp only [C.no, C.inR, C.rs0, List.any_cons, List.any_nil, Bool.or_false, Bool.or_assoc, eq_range, lt_range, Int.reduceSub])
    simp only [Exit.inBlock, Exit.then]
    exact ret_slot (d := 2) rfl ha'.defers e ⟨by rw [hv], rfl⟩
  · intro hu a' ha'
    simp only [if_or] at hu
    have hb := if_none hu
    have hv : C.no r = false := (by rw [← hb]; simp only [C.no, C.inR, C.rs0, List.any_cons, List.any_nil, Bool.or_false, Bool.or_assoc, eq_range, lt_range, Int.reduceSub])
    refine wp_seq (wp_region_lit (wpl_val _ rfl (run_assign _ _ rfl) ?_))
    exact wp_ret (ret_slot rfl ha'.defers (ha'.at_ 2 _ (by decide)) ⟨by rw [hv]; rfl, rfl⟩)

set_option maxRecDepth 1000000 in
theorem wide_any (r : Int) (w : World) : Calls Try.prog 99 #[.int .i32 r] w fun e w' => e = .returned (.bool (C.two r)) ∧ w = w' := by
  go_enter Try.func99, Try.ntmps99
  refine wp_seq (wp_region_lit (wpl_val _ rfl (run_assign _ _ rfl) ?_))
  refine wp_seq (wp_block ?_)
  apply sw_use (n := 139) (r := r) (res := 2)
  · repeat (first | exact sw_skip | apply sw_case | apply tst_or | apply tst_range | apply tst_rlt | apply tst_eq | decide)
  · exact ⟨rfl, rfl, rfl⟩
  · intro u hu a' ha' e
    simp only [if_or] at hu
    obtain ⟨hb, rfl⟩ := if_key hu
    have hv : C.two r = true := (by rw [← hb]; simp only [C.two, C.inR, C.rs2, List.any_cons, List.any_nil, Bool.or_false, Bool.or_assoc, eq_range, lt_range, Int.reduceSub])
    simp only [Exit.inBlock, Exit.then]
    exact ret_slot (d := 2) rfl ha'.defers e ⟨by rw [hv], rfl⟩
  · intro hu a' ha'
    simp only [if_or] at hu
    have hb := if_none hu
    have hv : C.two r = false := (by rw [← hb]; simp only [C.two, C.inR, C.rs2, List.any_cons, List.any_nil, Bool.or_false, Bool.or_assoc, eq_range, lt_range, Int.reduceSub])
    refine wp_seq (wp_region_lit (wpl_val _ rfl (run_assign _ _ rfl) ?_))
    exact wp_ret (ret_slot rfl ha'.defers (ha'.at_ 2 _ (by decide)) ⟨by rw [hv]; rfl, rfl⟩)

set_option maxRecDepth 1000000 in
theorem none_any (r : Int) (w : World) : Calls Try.prog 104 #[.int .i32 r] w fun e w' => e = .returned (.bool (C.no r)) ∧ w = w' := by
  go_enter Try.func104, Try.ntmps104
  refine wp_seq (wp_region_lit (wpl_val _ rfl (run_assign _ _ rfl) ?_))
  refine wp_seq (wp_block ?_)
  apply sw_use (n := 186) (r := r) (res := 2)
  · repeat (first | exact sw_skip | apply sw_case | apply tst_or | apply tst_range | apply tst_rlt | apply tst_eq | decide)
  · exact ⟨rfl, rfl, rfl⟩
  · intro u hu a' ha' e
    simp only [if_or] at hu
    obtain ⟨hb, rfl⟩ := if_key hu
    have hv : C.no r = true := (by rw [← hb]; simp only [C.no, C.inR, C.rs0, List.any_cons, List.any_nil, Bool.or_false, Bool.or_assoc, eq_range, lt_range, Int.reduceSub])
    simp only [Exit.inBlock, Exit.then]
    exact ret_slot (d := 2) rfl ha'.defers e ⟨by rw [hv], rfl⟩
  · intro hu a' ha'
    simp only [if_or] at hu
    have hb := if_none hu
    have hv : C.no r = false := (by rw [← hb]; simp only [C.no, C.inR, C.rs0, List.any_cons, List.any_nil, Bool.or_false, Bool.or_assoc, eq_range, lt_range, Int.reduceSub])
    refine wp_seq (wp_region_lit (wpl_val _ rfl (run_assign _ _ rfl) ?_))
    exact wp_ret (ret_slot rfl ha'.defers (ha'.at_ 2 _ (by decide)) ⟨by rw [hv]; rfl, rfl⟩)

set_option maxRecDepth 1000000 in
theorem wideR_any (r : Int) (w : World) : Calls Try.prog 105 #[.int .i32 r] w fun e w' => e = .returned (.bool (C.two r)) ∧ w = w' := by
  go_enter Try.func105, Try.ntmps105
  refine wp_seq (wp_region_lit (wpl_val _ rfl (run_assign _ _ rfl) ?_))
  refine wp_seq (wp_block ?_)
  apply sw_use (n := 136) (r := r) (res := 2)
  · repeat (first | exact sw_skip | apply sw_case | apply tst_or | apply tst_range | apply tst_rlt | apply tst_eq | decide)
  · exact ⟨rfl, rfl, rfl⟩
  · intro u hu a' ha' e
    simp only [if_or] at hu
    obtain ⟨hb, rfl⟩ := if_key hu
    have hv : C.two r = true := (by rw [← hb]; simp only [C.two, C.inR, C.rs2, List.any_cons, List.any_nil, Bool.or_false, Bool.or_assoc, eq_range, lt_range, Int.reduceSub])
    simp only [Exit.inBlock, Exit.then]
    exact ret_slot (d := 2) rfl ha'.defers e ⟨by rw [hv], rfl⟩
  · intro hu a' ha'
    simp only [if_or] at hu
    have hb := if_none hu
    have hv : C.two r = false := (by rw [← hb]; simp only [C.two, C.inR, C.rs2, List.any_cons, List.any_nil, Bool.or_false, Bool.or_assoc, eq_range, lt_range, Int.reduceSub])
    refine wp_seq (wp_region_lit (wpl_val _ rfl (run_assign _ _ rfl) ?_))
    exact wp_ret (ret_slot rfl ha'.defers (ha'.at_ 2 _ (by decide)) ⟨by rw [hv]; rfl, rfl⟩)

set_option maxRecDepth 1000000 in
theorem control_any (r : Int) (w : World) : Calls Try.prog 89 #[.int .i32 r] w fun e w' => e = .returned (.bool (C.ctl r)) ∧ w = w' := by
  go_enter Try.func89, Try.ntmps89
  refine wp_seq (wp_region_lit (wpl_val _ rfl (run_assign _ _ rfl) ?_))
  refine wp_seq (wp_block ?_)
  apply sw_use (n := 35) (r := r) (res := 2)
  · repeat (first | exact sw_skip | apply sw_case | apply tst_or | apply tst_range | apply tst_rlt | apply tst_eq | decide)
  · exact ⟨rfl, rfl, rfl⟩
  · intro u hu a' ha' e
    simp only [if_or] at hu
    obtain ⟨hb, rfl⟩ := if_key hu
    have hv : C.ctl r = true := (by rw [← hb]; simp only [C.ctl, C.inR, C.rsC, List.any_cons, List.any_nil, Bool.or_false, Bool.or_assoc, eq_range, lt_range, Int.reduceSub])
    simp only [Exit.inBlock, Exit.then]
    exact ret_slot (d := 2) rfl ha'.defers e ⟨by rw [hv], rfl⟩
  · intro hu a' ha'
    simp only [if_or] at hu
    have hb := if_none hu
    have hv : C.ctl r = false := (by rw [← hb]; simp only [C.ctl, C.inR, C.rsC, List.any_cons, List.any_nil, Bool.or_false, Bool.or_assoc, eq_range, lt_range, Int.reduceSub])
    refine wp_seq (wp_region_lit (wpl_val _ rfl (run_assign _ _ rfl) ?_))
    exact wp_ret (ret_slot rfl ha'.defers (ha'.at_ 2 _ (by decide)) ⟨by rw [hv]; rfl, rfl⟩)
end Go.Proofs.Ytclblidfamabdaa
