/- bidi.Class. -/
import Derived.Test.YtclblidfamabdaaTst
import Derived.Test.YtclblidfamabdaaBdP
set_option linter.unusedVariables false
set_option linter.unusedSimpArgs false
namespace Go.Proofs.Ytclblidfamabdaa
open Go.RowKit Go.Shelf Go.Lib
attribute [local go_sem] Oper.semAt_some

theorem rC_int {k : IntKind} {a b : Int} (h : a = b) : Ending.returned (.int k a) = .returned (.int k b) := by rw [h]
theorem rC_bool {a b : Bool} (h : a = b) : Ending.returned (.bool a) = .returned (.bool b) := by rw [h]
theorem eqC_range (r c : Int) : (r == c) = (decide (c ≤ r) && decide (r ≤ c)) := by rw [Bool.eq_iff_iff]; simp; omega
theorem retC_slot {P : Program} {fn : Func} {R : Ending → World → Prop} {a : Act} {w : World} {d : Nat} {v : Value} (h : fn.results = #[.tmp d]) (hd : a.defers = []) (e : a.eval (.tmp d) = v) (hR : R (.returned v) w) : bodyPost P fn R .ret a w :=
  bodyPost_ret (results_tmp h _ _ _) hd (by rw [show a.tmps.getD d undef = v from e]; exact hR)

namespace B
open Go.Proofs.Ytclblidfamabdaa.C
/-- The ranges as the program has them: two neighbours apart. -/
def rgsP : Nat → List (Int × Int)
  | 4 => [(48, 57), (178, 178), (179, 179), (185, 185), (1776, 1785), (8304, 8304), (8308, 8313), (8320, 8329), (65296, 65305)]
  | 7 => [(35, 37), (162, 165), (176, 176), (177, 177), (1642, 1642), (8240, 8244), (8352, 8399), (65283, 65285)]
  | 8 => [(44, 44), (46, 46), (47, 47), (58, 58), (160, 160), (1548, 1548), (8239, 8239), (8260, 8260), (65292, 65292), (65294, 65294), (65295, 65295), (65306, 65306)]
  | 5 => [(1536, 1541), (1632, 1641), (1643, 1643), (1644, 1644), (1757, 1757)]
  | 6 => [(43, 43), (45, 45), (8314, 8314), (8315, 8315), (8330, 8330), (8331, 8331), (8722, 8722), (65291, 65291), (65293, 65293)]
  | 13 => [(768, 879), (1155, 1161), (1425, 1469), (1471, 1471), (1473, 1473), (1474, 1474), (1476, 1476), (1477, 1477), (1479, 1479), (1552, 1562), (1611, 1631), (1648, 1648), (1750, 1756), (1759, 1764), (1767, 1767), (1768, 1768), (1770, 1773), (8400, 8447), (65024, 65039), (65056, 65071), (917760, 917999)]
  | 16 => [(0, 8), (14, 27), (33, 33), (34, 34), (38, 42), (59, 64), (91, 96), (123, 132), (134, 159), (161, 161), (166, 169), (171, 175), (180, 180), (182, 184), (187, 191), (215, 215), (247, 247), (8203, 8205), (8208, 8231), (8234, 8238), (8245, 8286), (8288, 8293), (8298, 8303), (8316, 8318), (8332, 8334), (8592, 8721), (8723, 11263), (12289, 12292), (12296, 12320), (12336, 12336), (65279, 65279), (65281, 65281), (65282, 65282), (65286, 65290), (65307, 65312), (65339, 65344), (65371, 65381), (65529, 65533)]
  | k => rgs k
/-- Two neighbours made one. -/
def mrg : Nat → List (Int × Int) → List (Int × Int)
  | 0, l => l
  | n + 1, p :: q :: l => if p.1 = p.2 ∧ q.1 = q.2 ∧ q.1 = p.1 + 1 then (p.1, q.2) :: mrg n l else p :: mrg n (q :: l)
  | _, l => l
theorem mrg_in (r : Int) : ∀ n l, inR (mrg n l) r = inR l r := by
  intro n
  induction n with
  | zero => intro l; rfl
  | succ n ih =>
    intro l
    match l with
    | [] => rfl
    | [_] => rfl
    | (a, b) :: (c, d) :: l =>
      unfold mrg
      split
      · rename_i h
        obtain ⟨h1, h2, h3⟩ := h
        simp only at h1 h2 h3
        subst h1 h2 h3
        rw [inR_cons, inR_cons, inR_cons, ih, ← Bool.or_assoc]
        congr 1
        rw [Bool.eq_iff_iff]; simp; omega
      · rw [inR_cons, inR_cons, ih]
theorem mrg_is : ∀ k, k < 17 → mrg 60 (rgsP k) = rgs k := by decide +kernel
theorem rgsP_eq (k : Nat) (hk : k < 17) (r : Int) : inR (rgsP k) r = inR (rgs k) r := by rw [← mrg_in r 60 (rgsP k), mrg_is k hk]
theorem clsV_eq (r : Int) : (if inR (rgsP 1) r = true then some (Value.int .i64 1) else if inR (rgsP 2) r = true then some (Value.int .i64 2) else if inR (rgsP 3) r = true then some (Value.int .i64 3) else if inR (rgsP 4) r = true then some (Value.int .i64 4) else if inR (rgsP 5) r = true then some (Value.int .i64 5) else if inR (rgsP 6) r = true then some (Value.int .i64 6) else if inR (rgsP 7) r = true then some (Value.int .i64 7) else if inR (rgsP 8) r = true then some (Value.int .i64 8) else if inR (rgsP 9) r = true then some (Value.int .i64 9) else if inR (rgsP 10) r = true then some (Value.int .i64 10) else if inR (rgsP 11) r = true then some (Value.int .i64 11) else if inR (rgsP 12) r = true then some (Value.int .i64 12) else if inR (rgsP 13) r = true then some (Value.int .i64 13) else if inR (rgsP 14) r = true then some (Value.int .i64 14) else if inR (rgsP 15) r = true then some (Value.int .i64 15) else if inR (rgsP 16) r = true then some (Value.int .i64 16) else none) = if cls r = 17 then none else some (Value.int .i64 (cls r : Int)) := by
  have e := fun k hk => rgsP_eq k hk r
  rw [e 1 (by omega), e 2 (by omega), e 3 (by omega), e 4 (by omega), e 5 (by omega), e 6 (by omega), e 7 (by omega), e 8 (by omega), e 9 (by omega), e 10 (by omega), e 11 (by omega), e 12 (by omega), e 13 (by omega), e 14 (by omega), e 15 (by omega), e 16 (by omega)]
  by_cases h1 : inR (rgs 1) r = true
  · have hc : cls r = 1 := by unfold cls; simp only [clsF, Nat.reduceSub, h1, if_true, if_false, Bool.false_eq_true]
    rw [hc]; simp [h1]
  by_cases h2 : inR (rgs 2) r = true
  · have hc : cls r = 2 := by unfold cls; simp only [clsF, Nat.reduceSub, h1, h2, if_true, if_false, Bool.false_eq_true]
    rw [hc]; simp [h1, h2]
  by_cases h3 : inR (rgs 3) r = true
  · have hc : cls r = 3 := by unfold cls; simp only [clsF, Nat.reduceSub, h1, h2, h3, if_true, if_false, Bool.false_eq_true]
    rw [hc]; simp [h1, h2, h3]
  by_cases h4 : inR (rgs 4) r = true
  · have hc : cls r = 4 := by unfold cls; simp only [clsF, Nat.reduceSub, h1, h2, h3, h4, if_true, if_false, Bool.false_eq_true]
    rw [hc]; simp [h1, h2, h3, h4]
  by_cases h5 : inR (rgs 5) r = true
  · have hc : cls r = 5 := by unfold cls; simp only [clsF, Nat.reduceSub, h1, h2, h3, h4, h5, if_true, if_false, Bool.false_eq_true]
    rw [hc]; simp [h1, h2, h3, h4, h5]
  by_cases h6 : inR (rgs 6) r = true
  · have hc : cls r = 6 := by unfold cls; simp only [clsF, Nat.reduceSub, h1, h2, h3, h4, h5, h6, if_true, if_false, Bool.false_eq_true]
    rw [hc]; simp [h1, h2, h3, h4, h5, h6]
  by_cases h7 : inR (rgs 7) r = true
  · have hc : cls r = 7 := by unfold cls; simp only [clsF, Nat.reduceSub, h1, h2, h3, h4, h5, h6, h7, if_true, if_false, Bool.false_eq_true]
    rw [hc]; simp [h1, h2, h3, h4, h5, h6, h7]
  by_cases h8 : inR (rgs 8) r = true
  · have hc : cls r = 8 := by unfold cls; simp only [clsF, Nat.reduceSub, h1, h2, h3, h4, h5, h6, h7, h8, if_true, if_false, Bool.false_eq_true]
    rw [hc]; simp [h1, h2, h3, h4, h5, h6, h7, h8]
  by_cases h9 : inR (rgs 9) r = true
  · have hc : cls r = 9 := by unfold cls; simp only [clsF, Nat.reduceSub, h1, h2, h3, h4, h5, h6, h7, h8, h9, if_true, if_false, Bool.false_eq_true]
    rw [hc]; simp [h1, h2, h3, h4, h5, h6, h7, h8, h9]
  by_cases h10 : inR (rgs 10) r = true
  · have hc : cls r = 10 := by unfold cls; simp only [clsF, Nat.reduceSub, h1, h2, h3, h4, h5, h6, h7, h8, h9, h10, if_true, if_false, Bool.false_eq_true]
    rw [hc]; simp [h1, h2, h3, h4, h5, h6, h7, h8, h9, h10]
  by_cases h11 : inR (rgs 11) r = true
  · have hc : cls r = 11 := by unfold cls; simp only [clsF, Nat.reduceSub, h1, h2, h3, h4, h5, h6, h7, h8, h9, h10, h11, if_true, if_false, Bool.false_eq_true]
    rw [hc]; simp [h1, h2, h3, h4, h5, h6, h7, h8, h9, h10, h11]
  by_cases h12 : inR (rgs 12) r = true
  · have hc : cls r = 12 := by unfold cls; simp only [clsF, Nat.reduceSub, h1, h2, h3, h4, h5, h6, h7, h8, h9, h10, h11, h12, if_true, if_false, Bool.false_eq_true]
    rw [hc]; simp [h1, h2, h3, h4, h5, h6, h7, h8, h9, h10, h11, h12]
  by_cases h13 : inR (rgs 13) r = true
  · have hc : cls r = 13 := by unfold cls; simp only [clsF, Nat.reduceSub, h1, h2, h3, h4, h5, h6, h7, h8, h9, h10, h11, h12, h13, if_true, if_false, Bool.false_eq_true]
    rw [hc]; simp [h1, h2, h3, h4, h5, h6, h7, h8, h9, h10, h11, h12, h13]
  by_cases h14 : inR (rgs 14) r = true
  · have hc : cls r = 14 := by unfold cls; simp only [clsF, Nat.reduceSub, h1, h2, h3, h4, h5, h6, h7, h8, h9, h10, h11, h12, h13, h14, if_true, if_false, Bool.false_eq_true]
    rw [hc]; simp [h1, h2, h3, h4, h5, h6, h7, h8, h9, h10, h11, h12, h13, h14]
  by_cases h15 : inR (rgs 15) r = true
  · have hc : cls r = 15 := by unfold cls; simp only [clsF, Nat.reduceSub, h1, h2, h3, h4, h5, h6, h7, h8, h9, h10, h11, h12, h13, h14, h15, if_true, if_false, Bool.false_eq_true]
    rw [hc]; simp [h1, h2, h3, h4, h5, h6, h7, h8, h9, h10, h11, h12, h13, h14, h15]
  by_cases h16 : inR (rgs 16) r = true
  · have hc : cls r = 16 := by unfold cls; simp only [clsF, Nat.reduceSub, h1, h2, h3, h4, h5, h6, h7, h8, h9, h10, h11, h12, h13, h14, h15, h16, if_true, if_false, Bool.false_eq_true]
    rw [hc]; simp [h1, h2, h3, h4, h5, h6, h7, h8, h9, h10, h11, h12, h13, h14, h15, h16]
  have hc : cls r = 17 := by unfold cls; simp only [clsF, Nat.reduceSub, h1, h2, h3, h4, h5, h6, h7, h8, h9, h10, h11, h12, h13, h14, h15, h16, if_true, if_false, Bool.false_eq_true]
  rw [hc]; simp [h1, h2, h3, h4, h5, h6, h7, h8, h9, h10, h11, h12, h13, h14, h15, h16]
end B

theorem in_any (r lo hi : Int) (w : World) : Calls Try.prog 28 #[.int .i32 r, .int .i32 lo, .int .i32 hi] w fun e w' => e = .returned (.bool (decide (lo ≤ r) && decide (r ≤ hi))) ∧ w = w' := by
  obtain ⟨B, hB⟩ : ∃ B, (decide (lo ≤ r) && decide (r ≤ hi)) = B := ⟨_, rfl⟩
  rw [hB]
  have HB := Lib.hid hB
  clear hB
  by_cases h1 : lo ≤ r
  · by_cases h2 : r ≤ hi
    · go_enter Try.func28, Try.ntmps28
      go_wp2
      go_ret
      exact ⟨rC_bool (by rw [← HB.out]; simp [h1, h2]), rfl⟩
    · go_enter Try.func28, Try.ntmps28
      go_wp2
      go_ret
      exact ⟨rC_bool (by rw [← HB.out]; simp; omega), rfl⟩
  · go_enter Try.func28, Try.ntmps28
    go_wp2
    go_ret
    exact ⟨rC_bool (by rw [← HB.out]; simp; omega), rfl⟩
theorem wpl_call {P : Program} {ops : Array Oper} {Q : Exit → Act → World → Prop} {a : Act} {w : World} {rest : List Oper} {o : Oper} (f : FuncId) (args : Array Value) (v : Value) (hw : Region.wanted o (yielded ops a.tmps) = true) (hr : (execOp a.eval o).run P w = .ok (.enter f args) w)
    (hC : Calls P f args w fun e w' => e = .returned v ∧ w = w') (h : wpList P ops Q rest (a.put o.dst v) w) : wpList P ops Q (o :: rest) a w := by
  unfold wpList
  rw [if_pos hw]
  refine .inl ?_
  unfold Oper.wp
  rw [hr]
  refine hC.mono ?_
  rintro e w' ⟨rfl, rfl⟩
  exact h
theorem run_in {ev : Operand → Value} {w : World} {d : Option Tmp} {t : TypeId} {p : String} {af : Array Edge} {g : Option (Nat × Bool)} (x : Operand) (r lo hi : Int) (hc : ∀ v, ev (.const v) = v) (hf : ev (.func 28) = .func (.func 28) #[] #[]) (h : ev x = .int .i32 r) :
    (execOp ev { dst := d, op := .call { callee := .value (.func 28), args := #[x, .const (.int .i32 lo), .const (.int .i32 hi)], argTypes := #[21, 21, 21] }, type := t, pos := p, after := af, guard := g }).run Try.prog w = .ok (.enter 28 #[.int .i32 r, .int .i32 lo, .int .i32 hi]) w := by
  simp [execOp, go_sem, h, hc, hf, resolve, invoke]
theorem tst_in {n : Nat} {r lo hi : Int} {d k id : Nat} {t1 t2 t3 : TypeId} {p1 p2 p3 : String} {f1 f2 f3 : Array Edge} (hk : k + 1 < n) (h0 : 0 < k) (hd : d < n) (hd0 : 0 < d) :
    Tst n r d (decide (lo ≤ r) && decide (r ≤ hi)) (.region id #[
      { dst := some k, op := .move (.tmp 0), type := t1, pos := p1, after := f1, guard := none },
      { dst := some (k + 1), op := .call { callee := .value (.func 28), args := #[.tmp k, .const (.int .i32 lo), .const (.int .i32 hi)], argTypes := #[21, 21, 21] }, type := t2, pos := p2, after := f2, guard := none },
      { dst := some d, op := .assign (.tmp (k + 1)), type := t3, pos := p3, after := f3, guard := none }] false) := by
  intro Q a w ha hK
  refine wp_region_lit ?_
  refine wpl_val _ rfl (run_move _ _ ha.r) ?_
  have h1 := ha.put k (.int .i32 r) h0 (by omega)
  have e1 := ha.at_ k (.int .i32 r) (by omega)
  simp only
  generalize a.put (some k) (.int .i32 r) = a1 at h1 e1 ⊢
  refine wpl_call _ _ (.bool (decide (lo ≤ r) && decide (r ≤ hi))) rfl (run_in _ r lo hi (evc _) rfl e1) (in_any r lo hi w) ?_
  have h2 := h1.put (k + 1) (.bool (decide (lo ≤ r) && decide (r ≤ hi))) (by omega) (by omega)
  have e2 := h1.at_ (k + 1) (.bool (decide (lo ≤ r) && decide (r ≤ hi))) (by omega)
  simp only
  generalize a1.put (some (k + 1)) (.bool (decide (lo ≤ r) && decide (r ≤ hi))) = a2 at h2 e2 ⊢
  refine wpl_val _ rfl (run_assign _ _ e2) ?_
  exact hK _ (h2.put d _ hd0 hd) (h2.at_ d _ hd)

set_option maxRecDepth 1000000 in
theorem class_any (r : Int) (w : World) : Calls Try.prog 12 #[.int .i32 r] w fun e w' => e = .returned (.int .i64 (B.cls r : Int)) ∧ w = w' := by
  go_enter Try.func12, Try.ntmps12
  refine wp_seq (wp_region_lit (wpl_val _ rfl (run_assign _ _ rfl) ?_))
  refine wp_seq (wp_block ?_)
  apply sw_use (n := 279) (r := r) (res := 2)
  · repeat (first | exact sw_skip | apply sw_case | apply tst_or | apply tst_in | apply tst_eq | decide)
  · exact ⟨rfl, rfl, rfl⟩
  · intro u hu a' ha' e
    have hv := B.clsV_eq r
    simp only [B.rgsP, B.rgs, List.drop, C.inR, List.any_cons, List.any_nil, Bool.or_false, Bool.or_assoc] at hv
    simp only [eqC_range] at hu
    rw [hv] at hu
    have hu2 : u = .int .i64 (B.cls r : Int) := by
      split at hu
      · cases hu
      · exact (Option.some.inj hu).symm
    subst hu2
    simp only [Exit.inBlock, Exit.then]
    exact retC_slot (d := 2) rfl ha'.defers e ⟨rfl, rfl⟩
  · intro hu a' ha'
    have hv := B.clsV_eq r
    simp only [B.rgsP, B.rgs, List.drop, C.inR, List.any_cons, List.any_nil, Bool.or_false, Bool.or_assoc] at hv
    simp only [eqC_range] at hu
    rw [hv] at hu
    have hu2 : B.cls r = 17 := by
      split at hu
      · assumption
      · cases hu
    refine wp_seq (wp_region_lit (wpl_val _ rfl (run_assign _ _ rfl) ?_))
    exact wp_ret (retC_slot rfl ha'.defers (ha'.at_ 2 _ (by decide)) ⟨by rw [hu2]; rfl, rfl⟩)
end Go.Proofs.Ytclblidfamabdaa
