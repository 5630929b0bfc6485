/- Tests of a number against ranges, over whatever frame: the small steps of a switch of many such tests. -/
import Derived.Test.YtclblidfamabdaaBase
set_option linter.unusedVariables false
namespace Go.Proofs.Ytclblidfamabdaa
open Go.RowKit Go.Shelf Go.Lib
attribute [local go_sem] Oper.semAt_some

theorem eval_put (a : Act) (d j : Nat) (v : Value) (h : d < a.tmps.size) : (a.put (some d) v).eval (.tmp j) = if j = d then v else a.eval (.tmp j) := by
  simp only [Act.put, Act.eval, Array.getD_eq_getD_getElem?, Array.getElem?_setIfInBounds]
  by_cases e : d = j
  · subst e; simp [h]
  · simp [e, Ne.symm e]
theorem size_put (a : Act) (d : Nat) (v : Value) : (a.put (some d) v).tmps.size = a.tmps.size := by simp [Act.put]

section
variable {P : Program} {ops : Array Oper} {Q : Exit → Act → World → Prop} {a : Act} {w : World} {rest : List Oper} {o : Oper}
theorem wpl_val (v : Value) (hw : Region.wanted o (yielded ops a.tmps) = true) (hr : (execOp a.eval o).run P w = .ok (.value v) w) (h : wpList P ops Q rest (a.put o.dst v) w) : wpList P ops Q (o :: rest) a w := by
  unfold wpList
  rw [if_pos hw]
  refine .inl ?_
  unfold Oper.wp
  rw [hr, Oper.upon_value]
  exact h
end
theorem wanted_none {d : Option Tmp} {op : Op} {t : TypeId} {p : String} {af : Array Edge} {y : Nat → Option Bool} : Region.wanted { dst := d, op := op, type := t, pos := p, after := af, guard := none } y = true := rfl

variable {w : World}
variable {ev : Operand → Value} {d : Option Tmp} {t : TypeId} {p : String} {af : Array Edge} {g : Option (Nat × Bool)}
theorem run_move (x : Operand) (v : Value) (h : ev x = v) : (execOp ev { dst := d, op := .move x, type := t, pos := p, after := af, guard := g }).run Try.prog w = .ok (.value v) w := by
  simp [execOp, go_sem, h]
theorem run_assign (x : Operand) (v : Value) (h : ev x = v) : (execOp ev { dst := d, op := .assign x, type := t, pos := p, after := af, guard := g }).run Try.prog w = .ok (.value v) w := by
  simp [execOp, go_sem, h]
theorem run_geq (x : Operand) (r c : Int) (hc : ∀ v, ev (.const v) = v) (h : ev x = .int .i32 r) :
    (execOp ev { dst := d, op := .binOp .geq 21 x (.const (.int .i32 c)) 21, type := t, pos := p, after := af, guard := g }).run Try.prog w = .ok (.value (.bool (decide (c ≤ r)))) w := by
  simp [execOp, go_sem, h, hc]
theorem run_leq (x : Operand) (r c : Int) (hc : ∀ v, ev (.const v) = v) (h : ev x = .int .i32 r) :
    (execOp ev { dst := d, op := .binOp .leq 21 x (.const (.int .i32 c)) 21, type := t, pos := p, after := af, guard := g }).run Try.prog w = .ok (.value (.bool (decide (r ≤ c)))) w := by
  simp [execOp, go_sem, h, hc]
theorem run_lss (x : Operand) (r c : Int) (hc : ∀ v, ev (.const v) = v) (h : ev x = .int .i32 r) :
    (execOp ev { dst := d, op := .binOp .lss 21 x (.const (.int .i32 c)) 21, type := t, pos := p, after := af, guard := g }).run Try.prog w = .ok (.value (.bool (decide (r < c)))) w := by
  simp [execOp, go_sem, h, hc]
theorem run_eql (x : Operand) (r c : Int) (hc : ∀ v, ev (.const v) = v) (h : ev x = .int .i32 r) :
    (execOp ev { dst := d, op := .binOp .eql 21 x (.const (.int .i32 c)) 21, type := t, pos := p, after := af, guard := g }).run Try.prog w = .ok (.value (.bool (r == c))) w := by
  simp [execOp, go_sem, h, hc]
theorem run_pick (x y : Operand) (b : Bool) (v : Value) (hc : ∀ v, ev (.const v) = v) (h : ev x = .bool b) (h2 : b = true → ev y = v) (h3 : b = false → v = .bool false) :
    (execOp ev { dst := d, op := .pick x y (.const (.bool false)), type := t, pos := p, after := af, guard := g }).run Try.prog w = .ok (.value v) w := by
  cases b
  · simp [execOp, go_sem, h, h3 rfl, hc]
  · simp [execOp, go_sem, h, h2 rfl]

/-- A frame of n slots, r in the first one. -/
structure Fok (n : Nat) (r : Int) (a : Act) : Prop where
  defers : a.defers = []
  size : a.tmps.size = n
  r : a.eval (.tmp 0) = .int .i32 r
theorem Fok.put {n : Nat} {r : Int} {a : Act} (h : Fok n r a) (d : Nat) (v : Value) (h0 : 0 < d) (hd : d < n) : Fok n r (a.put (some d) v) :=
  ⟨h.defers, by rw [size_put, h.size], by rw [eval_put _ _ _ _ (by rw [h.size]; exact hd), if_neg (by omega)]; exact h.r⟩
theorem Fok.at_ {n : Nat} {r : Int} {a : Act} (h : Fok n r a) (d : Nat) (v : Value) (hd : d < n) : (a.put (some d) v).eval (.tmp d) = v := by
  rw [eval_put _ _ _ _ (by rw [h.size]; exact hd), if_pos rfl]
theorem Fok.past {n : Nat} {r : Int} {a : Act} (h : Fok n r a) (d j : Nat) (v u : Value) (hd : d < n) (hj : j ≠ d) (e : a.eval (.tmp j) = u) : (a.put (some d) v).eval (.tmp j) = u := by
  rw [eval_put _ _ _ _ (by rw [h.size]; exact hd), if_neg hj]; exact e
theorem evc (a : Act) : ∀ v, a.eval (.const v) = v := fun _ => rfl

/-- A piece of code that tests r, and lays what it finds into slot d. -/
def Tst (n : Nat) (r : Int) (d : Nat) (b : Bool) (c : Code) : Prop :=
  ∀ (Q : Exit → Act → World → Prop) (a : Act) (w : World), Fok n r a → (∀ a', Fok n r a' → a'.eval (.tmp d) = .bool b → Q .normal a' w) → c.wp Try.prog Q a w

theorem yielded_at {ops : Array Oper} {a : Act} {j d : Nat} {b : Bool} {o : Oper} (ho : ops[j]? = some o) (hd : o.dst = some d) (h : a.eval (.tmp d) = .bool b) : yielded ops a.tmps j = some b := by
  unfold yielded
  rw [ho, Option.bind_some, hd, Option.bind_some]
  have : a.tmps.getD d undef = .bool b := h
  rw [Array.getD_eq_getD_getElem?] at this
  cases e : a.tmps[d]? with
  | none => rw [e] at this; cases this
  | some v => rw [e] at this; simp at this; rw [this]

theorem tst_gen {n : Nat} {r lo hi : Int} {op2 : BinOp} {q : Bool} {d k id : Nat} {t1 t2 t3 t4 t5 t6 t7 : TypeId} {p1 p2 p3 p4 p5 p6 p7 : String} {f1 f2 f3 f4 f5 f6 f7 : Array Edge} (hk : k + 5 < n) (h0 : 0 < k) (hd : d < n) (hd0 : 0 < d)
    (hrun : ∀ (ev : Operand → Value) (x : Operand) (d : Option Tmp) (t : TypeId) (p : String) (af : Array Edge) (g : Option (Nat × Bool)) (w : World), (∀ v, ev (.const v) = v) → ev x = .int .i32 r →
      (execOp ev { dst := d, op := .binOp op2 21 x (.const (.int .i32 hi)) 21, type := t, pos := p, after := af, guard := g }).run Try.prog w = .ok (.value (.bool q)) w) :
    Tst n r d (decide (lo ≤ r) && q) (.region id #[
      { dst := some k, op := .move (.tmp 0), type := t1, pos := p1, after := f1, guard := none },
      { dst := some (k + 1), op := .binOp .geq 21 (.tmp k) (.const (.int .i32 lo)) 21, type := t2, pos := p2, after := f2, guard := none },
      { dst := some (k + 2), op := .move (.tmp (k + 1)), type := t3, pos := p3, after := f3, guard := none },
      { dst := some (k + 3), op := .move (.tmp 0), type := t4, pos := p4, after := f4, guard := some (2, true) },
      { dst := some (k + 4), op := .binOp op2 21 (.tmp (k + 3)) (.const (.int .i32 hi)) 21, type := t5, pos := p5, after := f5, guard := some (2, true) },
      { dst := some (k + 5), op := .pick (.tmp (k + 2)) (.tmp (k + 4)) (.const (.bool false)), type := t6, pos := p6, after := f6, guard := none },
      { dst := some d, op := .assign (.tmp (k + 5)), type := t7, pos := p7, after := f7, guard := none }] false) := by
  intro Q a w ha hK
  refine wp_region_lit ?_
  generalize hops : List.toArray _ = ops
  refine wpl_val _ rfl (run_move _ _ ha.r) ?_
  have h1 := ha.put k (.int .i32 r) h0 (by omega)
  have e1 := ha.at_ k (.int .i32 r) (by omega)
  simp only
  generalize a.put (some k) (.int .i32 r) = a1 at h1 e1 ⊢
  refine wpl_val _ rfl (run_geq _ r lo (evc _) e1) ?_
  have h2 := h1.put (k + 1) (.bool (decide (lo ≤ r))) (by omega) (by omega)
  have e2 := h1.at_ (k + 1) (.bool (decide (lo ≤ r))) (by omega)
  simp only
  generalize a1.put (some (k + 1)) (.bool (decide (lo ≤ r))) = a2 at h2 e2 ⊢
  refine wpl_val _ rfl (run_move _ _ e2) ?_
  have h3 := h2.put (k + 2) (.bool (decide (lo ≤ r))) (by omega) (by omega)
  have e3 := h2.at_ (k + 2) (.bool (decide (lo ≤ r))) (by omega)
  simp only
  generalize a2.put (some (k + 2)) (.bool (decide (lo ≤ r))) = a3 at h3 e3 ⊢
  have hy : ∀ a' : Act, a'.eval (.tmp (k + 2)) = .bool (decide (lo ≤ r)) → yielded ops a'.tmps 2 = some (decide (lo ≤ r)) := fun a' h => by
    rw [← hops]; exact yielded_at rfl rfl h
  have fin : ∀ a5 : Act, Fok n r a5 → a5.eval (.tmp (k + 2)) = .bool (decide (lo ≤ r)) → (decide (lo ≤ r) = true → a5.eval (.tmp (k + 4)) = .bool (q)) →
      wpList Try.prog ops Q [{ dst := some (k + 5), op := .pick (.tmp (k + 2)) (.tmp (k + 4)) (.const (.bool false)), type := t6, pos := p6, after := f6, guard := none }, { dst := some d, op := .assign (.tmp (k + 5)), type := t7, pos := p7, after := f7, guard := none }] a5 w := by
    intro a5 h5 g2 g4
    refine wpl_val _ rfl (run_pick _ _ _ (.bool (decide (lo ≤ r) && q)) (evc _) g2 (fun hb => by rw [hb, Bool.true_and]; exact g4 hb) (fun hb => by rw [hb]; rfl)) ?_
    have h6 := h5.put (k + 5) (.bool (decide (lo ≤ r) && q)) (by omega) (by omega)
    have e6 := h5.at_ (k + 5) (.bool (decide (lo ≤ r) && q)) (by omega)
    simp only
    generalize a5.put (some (k + 5)) (.bool (decide (lo ≤ r) && q)) = a6 at h6 e6 ⊢
    refine wpl_val _ rfl (run_assign _ _ e6) ?_
    exact hK _ (h6.put d _ hd0 hd) (h6.at_ d _ hd)
  cases hb : decide (lo ≤ r) with
  | true =>
    have hy2 := hy a3 e3
    refine wpl_val _ (by simp only [Region.wanted]; rw [hy2, hb]; rfl) (run_move _ _ h3.r) ?_
    have h4 := h3.put (k + 3) (.int .i32 r) (by omega) (by omega)
    have e4 := h3.at_ (k + 3) (.int .i32 r) (by omega)
    have g4 := h3.past (k + 3) (k + 2) (.int .i32 r) _ (by omega) (by omega) e3
    simp only
    generalize a3.put (some (k + 3)) (.int .i32 r) = a4 at h4 e4 g4 ⊢
    refine wpl_val _ (by simp only [Region.wanted]; rw [hy a4 g4, hb]; rfl) (hrun _ _ _ _ _ _ _ _ (evc _) e4) ?_
    exact fin _ (h4.put (k + 4) _ (by omega) (by omega)) (h4.past (k + 4) (k + 2) _ _ (by omega) (by omega) g4) (fun _ => h4.at_ (k + 4) _ (by omega))
  | false =>
    refine wpList_skip (by simp only [Region.wanted]; rw [hy a3 e3, hb]; rfl) ?_
    have h4 := h3.put (k + 3) undef (by omega) (by omega)
    have g4 := h3.past (k + 3) (k + 2) undef _ (by omega) (by omega) e3
    simp only
    generalize a3.put (some (k + 3)) undef = a4 at h4 g4 ⊢
    refine wpList_skip (by simp only [Region.wanted]; rw [hy a4 g4, hb]; rfl) ?_
    exact fin _ (h4.put (k + 4) _ (by omega) (by omega)) (h4.past (k + 4) (k + 2) _ _ (by omega) (by omega) g4) (fun h => by rw [hb] at h; cases h)

theorem tst_range {n : Nat} {r lo hi : Int} {d k id : Nat} {t1 t2 t3 t4 t5 t6 t7 : TypeId} {p1 p2 p3 p4 p5 p6 p7 : String} {f1 f2 f3 f4 f5 f6 f7 : Array Edge} (hk : k + 5 < n) (h0 : 0 < k) (hd : d < n) (hd0 : 0 < d) :
    Tst n r d (decide (lo ≤ r) && decide (r ≤ hi)) (.region id #[
      { dst := some k, op := .move (.tmp 0), type := t1, pos := p1, after := f1, guard := none },
      { dst := some (k + 1), op := .binOp .geq 21 (.tmp k) (.const (.int .i32 lo)) 21, type := t2, pos := p2, after := f2, guard := none },
      { dst := some (k + 2), op := .move (.tmp (k + 1)), type := t3, pos := p3, after := f3, guard := none },
      { dst := some (k + 3), op := .move (.tmp 0), type := t4, pos := p4, after := f4, guard := some (2, true) },
      { dst := some (k + 4), op := .binOp .leq 21 (.tmp (k + 3)) (.const (.int .i32 hi)) 21, type := t5, pos := p5, after := f5, guard := some (2, true) },
      { dst := some (k + 5), op := .pick (.tmp (k + 2)) (.tmp (k + 4)) (.const (.bool false)), type := t6, pos := p6, after := f6, guard := none },
      { dst := some d, op := .assign (.tmp (k + 5)), type := t7, pos := p7, after := f7, guard := none }] false) :=
  tst_gen hk h0 hd hd0 (fun ev x d t p af g w hc h => run_leq x r hi hc h)
theorem tst_rlt {n : Nat} {r lo hi : Int} {d k id : Nat} {t1 t2 t3 t4 t5 t6 t7 : TypeId} {p1 p2 p3 p4 p5 p6 p7 : String} {f1 f2 f3 f4 f5 f6 f7 : Array Edge} (hk : k + 5 < n) (h0 : 0 < k) (hd : d < n) (hd0 : 0 < d) :
    Tst n r d (decide (lo ≤ r) && decide (r < hi)) (.region id #[
      { dst := some k, op := .move (.tmp 0), type := t1, pos := p1, after := f1, guard := none },
      { dst := some (k + 1), op := .binOp .geq 21 (.tmp k) (.const (.int .i32 lo)) 21, type := t2, pos := p2, after := f2, guard := none },
      { dst := some (k + 2), op := .move (.tmp (k + 1)), type := t3, pos := p3, after := f3, guard := none },
      { dst := some (k + 3), op := .move (.tmp 0), type := t4, pos := p4, after := f4, guard := some (2, true) },
      { dst := some (k + 4), op := .binOp .lss 21 (.tmp (k + 3)) (.const (.int .i32 hi)) 21, type := t5, pos := p5, after := f5, guard := some (2, true) },
      { dst := some (k + 5), op := .pick (.tmp (k + 2)) (.tmp (k + 4)) (.const (.bool false)), type := t6, pos := p6, after := f6, guard := none },
      { dst := some d, op := .assign (.tmp (k + 5)), type := t7, pos := p7, after := f7, guard := none }] false) :=
  tst_gen hk h0 hd hd0 (fun ev x d t p af g w hc h => run_lss x r hi hc h)

theorem tst_eq {n : Nat} {r c : Int} {d k id : Nat} {t1 t2 t3 : TypeId} {p1 p2 p3 : String} {f1 f2 f3 : Array Edge} (hk : k + 1 < n) (h0 : 0 < k) (hd : d < n) (hd0 : 0 < d) :
    Tst n r d (r == c) (.region id #[
      { dst := some k, op := .move (.tmp 0), type := t1, pos := p1, after := f1, guard := none },
      { dst := some (k + 1), op := .binOp .eql 21 (.tmp k) (.const (.int .i32 c)) 21, type := t2, pos := p2, after := f2, guard := none },
      { dst := some d, op := .assign (.tmp (k + 1)), type := t3, pos := p3, after := f3, guard := none }] false) := by
  intro Q a w ha hK
  refine wp_region_lit ?_
  refine wpl_val _ rfl (run_move _ _ ha.r) ?_
  have h1 := ha.put k (.int .i32 r) h0 (by omega)
  have e1 := ha.at_ k (.int .i32 r) (by omega)
  simp only
  generalize a.put (some k) (.int .i32 r) = a1 at h1 e1 ⊢
  refine wpl_val _ rfl (run_eql _ r c (evc _) e1) ?_
  have h2 := h1.put (k + 1) (.bool (r == c)) (by omega) (by omega)
  have e2 := h1.at_ (k + 1) (.bool (r == c)) (by omega)
  simp only
  generalize a1.put (some (k + 1)) (.bool (r == c)) = a2 at h2 e2 ⊢
  refine wpl_val _ rfl (run_assign _ _ e2) ?_
  exact hK _ (h2.put d _ hd0 hd) (h2.at_ d _ hd)

theorem tst_or {n : Nat} {r : Int} {d : Nat} {b1 b2 : Bool} {c1 c2 : Code} (h1 : Tst n r d b1 c1) (h2 : Tst n r d b2 c2) : Tst n r d (b1 || b2) (c1.seq (.cond (.tmp d) .skip c2)) := by
  intro Q a w ha hK
  refine wp_seq (h1 _ a w ha fun a' ha' e => ?_)
  cases b1
  · exact wp_cond_false e (h2 Q a' w ha' hK)
  · exact wp_cond_true e (wp_skip (hK a' ha' e))

/-- A switch: what it finds: it returns with a value in slot 'res', or goes on behind itself. -/
def Sw (n : Nat) (r : Int) (res : Nat) (v : Option Value) (c : Code) : Prop :=
  ∀ (Q : Exit → Act → World → Prop) (a : Act) (w : World), Fok n r a → (∀ u, v = some u → ∀ a', Fok n r a' → a'.eval (.tmp res) = u → Q .ret a' w) → (v = none → ∀ a', Fok n r a' → Q .normal a' w) → c.wp Try.prog Q a w
theorem sw_use {n : Nat} {r : Int} {res : Nat} {v : Option Value} {c : Code} {Q : Exit → Act → World → Prop} {a : Act} {w : World} (h : Sw n r res v c) (ha : Fok n r a) (h1 : ∀ u, v = some u → ∀ a', Fok n r a' → a'.eval (.tmp res) = u → Q .ret a' w) (h2 : v = none → ∀ a', Fok n r a' → Q .normal a' w) : c.wp Try.prog Q a w := h Q a w ha h1 h2
theorem sw_skip {n : Nat} {r : Int} {res : Nat} : Sw n r res none .skip := fun Q a w ha h1 h2 => wp_skip (h2 rfl a ha)
theorem sw_case {n : Nat} {r : Int} {res d id : Nat} {b : Bool} {u : Value} {v : Option Value} {t B : Code} {t1 : TypeId} {p1 : String} {f1 : Array Edge} (ht : Tst n r d b t) (hB : Sw n r res v B) (hr : res < n) (hr0 : 0 < res) :
    Sw n r res (if b then some u else v) (t.seq (.cond (.tmp d) ((Code.region id #[{ dst := some res, op := .assign (.const u), type := t1, pos := p1, after := f1, guard := none }] false).seq .ret) B)) := by
  intro Q a w ha h1 h2
  refine wp_seq (ht _ a w ha fun a' ha' e => ?_)
  cases b
  · exact wp_cond_false e (hB Q a' w ha' h1 h2)
  · refine wp_cond_true e (wp_seq (wp_region_lit (wpl_val _ rfl (run_assign _ u rfl) ?_)))
    exact wp_ret (h1 u rfl _ (ha'.put res u hr0 hr) (ha'.at_ res u hr))
end Go.Proofs.Ytclblidfamabdaa
