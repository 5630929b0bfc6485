/- The law's 'known': the facts of one small text. -/
import Derived.Test.YtcngfcckajpkhaaCellO
set_option linter.unusedVariables false
set_option linter.unusedSimpArgs false
namespace Go.Proofs.Ytcngfcckajpkhaa
open Go.RowKit Go.Shelf Go.Lib Go.BigFrame
attribute [local go_sem] Oper.semAt_some

def ks0 : ByteArray := ⟨#[101, 204, 129, 228, 184, 173, 255]⟩
def kc0 : List C.Cl := [⟨0, 3, 0, 2, 1⟩, ⟨3, 3, 2, 3, 2⟩, ⟨6, 1, 3, 4, 1⟩]
theorem ks_clus : C.clus (U.toks ks0.data.toList) = kc0 := by decide
theorem ks_size : ks0.size ≤ 4194304 := by decide

theorem kc_of (w : World) : Calls Try.prog 25 #[.string ks0] w fun e w' => e = .returned (.int .i64 4) ∧ Below w.heap.size w w' := by
  refine (of_any ks0 w ks_size).mono ?_
  rintro e w' ⟨rfl, hb⟩
  rw [ks_clus]
  exact ⟨rfl, hb⟩
theorem kc_wide (w : World) : Calls Try.prog 20 #[.int .i32 20013] w fun e w' => e = .returned (.int .i64 2) ∧ w = w' := by
  refine (width_any 20013 w).mono ?_
  rintro e w' ⟨rfl, hb⟩
  rw [show C.wid 20013 = 2 by decide]
  exact ⟨rfl, hb⟩
theorem kc_none (w : World) : Calls Try.prog 20 #[.int .i32 769] w fun e w' => e = .returned (.int .i64 0) ∧ w = w' := by
  refine (width_any 769 w).mono ?_
  rintro e w' ⟨rfl, hb⟩
  rw [show C.wid 769 = 0 by decide]
  exact ⟨rfl, hb⟩

/-- Equality of clusters. -/
theorem eq_cellsC (s z : C.Cl) (w : World) : (Op.equalIn 10000 33 (encC s) (encC z)).run Try.prog w = .ok (decide (s = z)) w := by
  have e : decide (s = z) = (((s.at_ : Int) == (z.at_ : Int)) && ((s.len : Int) == (z.len : Int)) && ((s.frm : Int) == (z.frm : Int)) && ((s.to_ : Int) == (z.to_ : Int)) && ((s.cells : Int) == (z.cells : Int))) := by
    rw [Bool.eq_iff_iff]
    cases s; cases z
    simp only [C.Cl.mk.injEq, decide_eq_true_eq, Bool.and_eq_true, beq_iff_eq, Int.natCast_inj, and_assoc]
  rw [e]
  obtain ⟨a, ha⟩ : ∃ a, ((s.at_ : Int) == (z.at_ : Int)) = a := ⟨_, rfl⟩
  obtain ⟨b, hb⟩ : ∃ a, ((s.len : Int) == (z.len : Int)) = a := ⟨_, rfl⟩
  obtain ⟨c, hc⟩ : ∃ a, ((s.frm : Int) == (z.frm : Int)) = a := ⟨_, rfl⟩
  obtain ⟨d, hd⟩ : ∃ a, ((s.to_ : Int) == (z.to_ : Int)) = a := ⟨_, rfl⟩
  obtain ⟨f, hf⟩ : ∃ a, ((s.cells : Int) == (z.cells : Int)) = a := ⟨_, rfl⟩
  rw [ha, hb, hc, hd, hf]
  unfold encC
  rw [show (10000 : Nat) = 9999 + 1 from rfl, run_equalIn_agg w 9999 _ _ _ (by kernel_rfl) (by kernel_rfl)]
  have hu3 : Try.prog.underlying 3 = some (.int .i64) := Try.underlying3
  cases a <;> cases b <;> cases c <;> cases d <;> cases f <;> simp [Op.eqFields, Program.fieldsOf, Try.underlying33, go_sem, ha, hb, hc, hd, hf, hu3]

/-- What holds while 'known' goes over its clusters: the result's box, the count's. -/
structure Kn (w : World) (v : Bool) (n : Nat) (W : World) : Prop where
  below : Below w.heap.size w W
  size : w.heap.size + 3 ≤ W.heap.size
  r : W.heap[w.heap.size]? = some (.cells #[.bool v] 4 (0, 0))
  n : W.heap[w.heap.size + 2]? = some (.cells #[.int .i64 (n : Int)] 3 (0, 0))
theorem Kn.fr {w : World} {v : Bool} {n : Nat} {A B : World} {S : Nat → Prop} (h : Kn w v n A) (hf : Fr S A B) (hS : ∀ k, k < w.heap.size + 3 → S k) : Kn w v n B :=
  ⟨h.below.trans (hf.toBelow (fun k hk => hS k (by omega)) (by have := h.size; omega)), Nat.le_trans h.size hf.size, (hf.block _ (Array.getElem?_eq_some_iff.1 h.r).1 (hS _ (by omega))).trans h.r, (hf.block _ (Array.getElem?_eq_some_iff.1 h.n).1 (hS _ (by omega))).trans h.n⟩
theorem Kn.setN {w : World} {v : Bool} {n : Nat} {A : World} (h : Kn w v n A) (m : Nat) : Kn w v m (A.setCell ⟨w.heap.size + 2, 0, none⟩ (.int .i64 (m : Int))) :=
  ⟨h.below.setCell (p := ⟨w.heap.size + 2, 0, none⟩) (by simp) _, by simpa [World.setCell] using h.size, by rw [Below.heap_setCell _ _ _ _ (by simp)]; exact h.r, heap_setCell_same h.n _⟩
theorem Kn.setR {w : World} {v : Bool} {n : Nat} {A : World} (h : Kn w v n A) (u : Bool) : Kn w u n (A.setCell ⟨w.heap.size, 0, none⟩ (.bool u)) :=
  ⟨h.below.setCell (p := ⟨w.heap.size, 0, none⟩) (by simp) _, by simpa [World.setCell] using h.size, heap_setCell_same h.r _, by rw [Below.heap_setCell _ _ _ _ (by simp)]; exact h.n⟩

set_option maxRecDepth 1000000 in
set_option maxHeartbeats 2000000 in
theorem known_any (w : World) : Calls Try.prog 19 #[] w fun e w' => e = .returned (.bool true) ∧ Below w.heap.size w w' := by
  have hnil : ∀ (lb : Array Value) (w : World), (binOp .eql 44 (.func (.func 48) #[] lb) .nilFunc).run Try.prog w = .ok (.bool false) w := fun _ _ => by kernel_rfl
  refine (callsIn_wide (n := 0)).1 (callsIn_of_wp_marks Try.func19 rfl trivial (wpIn_wide.2 ?_) rfl)
  simp only [Try.ntmps19, List.size_toArray, List.length_cons, List.length_nil, Nat.reduceAdd, Nat.reduceSub, Array.replicate_succ, Array.replicate_zero, List.push_toArray, List.append_toArray, List.nil_append, List.cons_append]
  go_wp2_with (go_at_call 30; refine (clusters_call _ _).mono ?_; rintro e w' ⟨rfl, rfl⟩)
  obtain ⟨W0, hW0⟩ : ∃ W0, ((w.alloc (.cells #[.bool false] 4)).alloc (.cells #[.string ks0] 9)).alloc (.cells #[.int .i64 0] 3) = W0 := ⟨_, rfl⟩
  unfold ks0 at hW0
  rw [hW0]
  have hz : W0.heap.size = w.heap.size + 3 := by rw [← hW0]; simp
  have hT : Kn w false 0 W0 := by
    rw [← hW0]
    refine ⟨(((Below.refl _ _).alloc (Nat.le_refl _) _).alloc (by simp) _).alloc (by simp; omega) _, by simp, ?_, ?_⟩
    · exact (Below.heap_alloc _ _ _ (by simp; omega)).trans ((Below.heap_alloc _ _ _ (by simp)).trans (World.alloc_heap_new w _))
    · have := World.alloc_heap_new ((w.alloc (.cells #[.bool false] 4)).alloc (.cells #[.string ⟨#[101, 204, 129, 228, 184, 173, 255]⟩] 9)) (.cells #[.int .i64 0] 3)
      rw [World.size_alloc, World.size_alloc] at this
      exact this
  have hb1 : W0.cell? ⟨w.heap.size + 1, 0, none⟩ = some (.string ks0) := by
    rw [← hW0]
    have := (cell_new (w.alloc (.cells #[.bool false] 4)) (.string ks0) 9).1
    rw [World.size_alloc] at this
    rw [World.cell?_of_block (Below.heap_alloc _ _ _ (by simp))]
    exact this
  clear hW0
  have hz1 : W0.heap.size ≤ w.heap.size + 3 := by omega
  have hz2 : w.heap.size + 3 ≤ W0.heap.size := by omega
  clear hz
  have CI := clusters_in ks0 ks_size (w.heap.size + 1) W0 hb1
  rw [ks_clus] at CI
  refine wp_rf W0 rfl enters_clusters CI (Fr.refl _ _) (fun k h => by omega) (fun _ => rfl)
    (fun pre W => Kn w false pre.length W) (fun _ _ _ => False) ?hI (fun _ _ _ _ _ h => h) hT ?round ?done ?stop
  case hI => rintro pre A B hf h; exact h.fr hf (fun k hk => by omega)
  case round =>
    rintro pre x post W hx hsz hT
    have hpl : pre.length ≤ 3 := by have := congrArg List.length hx; simp [kc0] at this; omega
    have hx0 : pre = [] → x = ⟨0, 3, 0, 2, 1⟩ := by rintro rfl; exact (List.cons.inj hx).1.symm
    have HX := Lib.hid hx0
    unfold encC
    clear hx hx0
    gi_wp2
    refine ⟨(Fr.refl _ _).alloc _, fun W3 hf3 hs3 hr3 => ?_⟩
    have hx3 : W3.heap[W.heap.size]? = some (.cells #[.int .i64 (x.at_ : Int), .int .i64 (x.len : Int), .int .i64 (x.frm : Int), .int .i64 (x.to_ : Int), .int .i64 (x.cells : Int)] 33 (0, 0)) := rx_new hf3 (by omega)
    have hT3 := (hT.fr (S := fun _ => True) ((Fr.refl _ _).alloc (.cells #[.int .i64 (x.at_ : Int), .int .i64 (x.len : Int), .int .i64 (x.frm : Int), .int .i64 (x.to_ : Int), .int .i64 (x.cells : Int)] 33)) (fun _ _ => trivial)).fr hf3 (fun k hk => by omega)
    have c0 : W3.cell? ⟨W.heap.size, 0, none⟩ = some (.int .i64 (x.at_ : Int)) := by simp [World.cell?, hx3]
    have c1 : W3.cell? ⟨W.heap.size, 1, none⟩ = some (.int .i64 (x.len : Int)) := by simp [World.cell?, hx3]
    have c2 : W3.cell? ⟨W.heap.size, 2, none⟩ = some (.int .i64 (x.frm : Int)) := by simp [World.cell?, hx3]
    have c3 : W3.cell? ⟨W.heap.size, 3, none⟩ = some (.int .i64 (x.to_ : Int)) := by simp [World.cell?, hx3]
    have c4 : W3.cell? ⟨W.heap.size, 4, none⟩ = some (.int .i64 (x.cells : Int)) := by simp [World.cell?, hx3]
    have cb := (cell_of_block hT3.n).1
    have fb := (cell_of_block hT3.n).2
    have hK := Lib.hid hT3
    clear hT3 hT hf3 hs3 hr3 hx3
    have fin : roundEnd (fun k => k = w.heap.size + 1 ∨ (W0.heap.size ≤ k ∧ k < W0.heap.size + 2 + 6)) (fun pre W => Kn w false pre.length W) (fun _ _ _ => False) (pre ++ [x]) W3 .normal ⟨#[], []⟩ (W3.setCell ⟨w.heap.size + 2, 0, none⟩ (.int .i64 ((pre.length : Int) + 1))) := by
      refine ⟨((Fr.refl _ _).setCell _ _ (fun _ h => by simp at h; omega)), ?_⟩
      show Kn w false (pre ++ [x]).length _
      rw [List.length_append]
      exact hK.out.setN _
    have FIN := Lib.hid fin
    clear fin
    by_cases hp : pre = []
    · have he : ∀ w, (Op.equalIn 10000 33 (.agg #[.int .i64 (x.at_ : Int), .int .i64 (x.len : Int), .int .i64 (x.frm : Int), .int .i64 (x.to_ : Int), .int .i64 (x.cells : Int)]) (.agg #[.int .i64 0, .int .i64 3, .int .i64 0, .int .i64 2, .int .i64 1])).run Try.prog w = .ok true w := fun w => by
        have := eq_cellsC x ⟨0, 3, 0, 2, 1⟩ w
        rw [decide_eq_true (HX.out hp)] at this
        exact this
      have hp0 : pre.length = 0 := by rw [hp]; rfl
      gi_wp2
      have := FIN.out
      rw [hp0] at this
      exact this
    · have hp0 : 0 < pre.length := List.length_pos_iff.2 hp
      gi_wp2
      exact FIN.out
  case done =>
    rintro W hT hD
    have cv := (cell_of_block hT.r).1
    have fv := (cell_of_block hT.r).2
    have cn : W.cell? ⟨w.heap.size + 2, 0, none⟩ = some (.int .i64 3) := (cell_of_block hT.n).1
    go_wp2_with (first
      | (go_at_call 25; refine (kc_of _).mono ?_; rintro e w' ⟨rfl, hb⟩; have hT' := Lib.hid (hT.fr (Fr.of_below (S := fun k => k < W.heap.size) hb (fun k _ h => h)) (fun k hk => by have := hT.size; omega)); have cv' := (cell_of_block hT'.out.r).1; have fv' := (cell_of_block hT'.out.r).2)
      | (go_at_call 20; refine (kc_wide _).mono ?_; rintro e w' ⟨rfl, rfl⟩)
      | (go_at_call 20; refine (kc_none _).mono ?_; rintro e w' ⟨rfl, rfl⟩))
    have hDlt := (Array.getElem?_eq_some_iff.1 hD).1
    have hD' : w'.heap[W0.heap.size]? = some (.deferred (some [])) := (hb.block _ hDlt).trans hD
    have hR := hT'.out.setR true
    refine ⟨by simp, .inl ⟨_, _, rfl, run_takeDeferred (by rw [Below.heap_setCell _ _ _ _ (by simp; omega)]; exact hD'), ?_⟩⟩
    have hT3 := hR.fr (S := fun k => k < w.heap.size + 3) ((Fr.refl _ _).putObj W0.heap.size (Obj.deferred none) (fun _ h => by omega)) (fun k h => h)
    have cv3 := (cell_of_block hT3.r).1
    exact ⟨.bool true, by simp [results, Try.results19, go_sem, cv3], rfl, hT3.below⟩
  case stop =>
    intro c pre W _ _ h
    exact h.elim
end Go.Proofs.Ytcngfcckajpkhaa
