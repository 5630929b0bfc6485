/- cell.Clusters' inner function: one sign is taken in. -/
import Derived.Test.YtclblidfamabdaaCellA
set_option linter.unusedVariables false
set_option linter.unusedSimpArgs false
namespace Go.Proofs.Ytclblidfamabdaa
open Go.RowKit Go.Shelf Go.Lib Go.BigFrame
attribute [local go_sem] Oper.semAt_some

/-- What lies in a block. -/
def At (W : World) (B : Nat) (cs : Array Value) : Prop := ∃ t, W.heap[B]? = some (.cells cs t (0, 0))
theorem At.fr {S : Nat → Prop} {W W' : World} {B : Nat} {cs : Array Value} (h : At W B cs) (hf : Fr S W W') (hs : S B) : At W' B cs := by
  obtain ⟨t, h⟩ := h
  exact ⟨t, (hf.block B (Array.getElem?_eq_some_iff.1 h).1 hs).trans h⟩
theorem At.cell {W : World} {B : Nat} {cs : Array Value} (h : At W B cs) (j : Nat) (v : Value) (hj : cs[j]? = some v) : W.cell? ⟨B, j, none⟩ = some v := by obtain ⟨t, h⟩ := h; exact (cell_of_cells h j v hj).1
theorem At.frozen {W : World} {B : Nat} {cs : Array Value} (h : At W B cs) (j : Nat) (v : Value) (hj : cs[j]? = some v) : W.frozen? ⟨B, j, none⟩ = false := by obtain ⟨t, h⟩ := h; exact (cell_of_cells h j v hj).2
theorem At.set {W : World} {B : Nat} {cs : Array Value} (h : At W B cs) (j : Nat) (v : Value) : At (W.setCell ⟨B, j, none⟩ v) B (cs.setIfInBounds j v) := by obtain ⟨t, h⟩ := h; exact ⟨t, block_setCell h j v⟩
theorem At.other {W : World} {B B' : Nat} {cs : Array Value} (h : At W B cs) (j : Nat) (v : Value) (hn : B ≠ B') : At (W.setCell ⟨B', j, none⟩ v) B cs :=
  h.fr (S := fun k => k = B) ((Fr.refl _ _).setCell _ _ (fun _ e => hn e.symm)) rfl
theorem At.drewN {W : World} {B : Nat} {cs : Array Value} (h : At W B cs) (n : Nat) : At (W.drewN n) B cs := h
theorem At.lt {W : World} {B : Nat} {cs : Array Value} (h : At W B cs) : B < W.heap.size := by obtain ⟨t, h⟩ := h; exact (Array.getElem?_eq_some_iff.1 h).1

/-- What the iterator holds: whom it hands on to, the group, the last sign's place and rune, has a group begun? -/
structure St (A : World) (B l : Nat) (g : C.G) (a r : Nat) (b : Bool) : Prop where
  y : At A B #[.func (.yield l) #[] #[]]
  g : At A (B + 1) (cellsG g)
  a : At A (B + 2) #[.int .i64 (a : Int)]
  r : At A (B + 3) #[.int .i32 (r : Int)]
  b : At A (B + 4) #[.bool b]
theorem St.fr {A A' : World} {B l : Nat} {g : C.G} {a r : Nat} {b : Bool} {S : Nat → Prop} (h : St A B l g a r b) (hf : Fr S A A') (hs : ∀ k, B ≤ k → k < B + 5 → S k) : St A' B l g a r b :=
  ⟨h.y.fr hf (hs _ (by omega) (by omega)), h.g.fr hf (hs _ (by omega) (by omega)), h.a.fr hf (hs _ (by omega) (by omega)), h.r.fr hf (hs _ (by omega) (by omega)), h.b.fr hf (hs _ (by omega) (by omega))⟩

/-- The arguments of the inner function. -/
def argsN (B e : Nat) : Array Value := #[.int .i64 (e : Int), .pointer (some ⟨B + 4, 0, none⟩), .pointer (some ⟨B + 1, 0, none⟩), .pointer (some ⟨B + 3, 0, none⟩), .pointer (some ⟨B, 0, none⟩), .pointer (some ⟨B + 2, 0, none⟩)]

set_option maxRecDepth 1000000 in
set_option maxHeartbeats 4000000 in
theorem sign_first (A : World) (B l : Nat) (g : C.G) (a r n : Nat) (h : St A B l g a r false) (h2 : g.c.to_ ≤ 4194304) (h3 : g.c.len ≤ 4194304) (h4 : n ≤ 4194304) (h5 : a ≤ 4194304) :
    CallsIn Fence.wide 0 Try.prog 69 (argsN B (a + n)) A fun e A' => e = .returned (.bool true) ∧ St A' B l (C.add g r n) a r true ∧ Fr (fun k => k ≠ B + 1 ∧ k ≠ B + 4) A A' := by
  have cb : A.cell? ⟨B + 4, 0, none⟩ = some (.bool false) := h.b.cell 0 _ rfl
  have fb : A.frozen? ⟨B + 4, 0, none⟩ = false := h.b.frozen 0 _ rfl
  have cr : A.cell? ⟨B + 3, 0, none⟩ = some (.int .i32 (r : Int)) := h.r.cell 0 _ rfl
  have ca : A.cell? ⟨B + 2, 0, none⟩ = some (.int .i64 (a : Int)) := h.a.cell 0 _ rfl
  obtain ⟨tg, hg⟩ : At (A.setCell ⟨B + 4, 0, none⟩ (.bool true)) (B + 1) (cellsG g) := h.g.other _ _ (by omega)
  have hn : (a : Int) + (n : Int) - (a : Int) = (n : Int) := by omega
  have H := Lib.hid h
  clear h
  refine (callsIn_wide (n := 0)).2 ?_
  unfold argsN
  go_enter Try.func69, Try.ntmps69
  go_wp2_with (go_at_call 71; ((with_reducible refine (add_any _ _ g r n tg hg h2 h3 h4).mono ?_); rintro e w' ⟨⟨v, rfl⟩, q1, q2, q3⟩))
  go_ret
  have F : Fr (fun k => k ≠ B + 1 ∧ k ≠ B + 4) A w' := ((Fr.refl _ A).setCell ⟨B + 4, 0, none⟩ _ (fun _ h => h.2 rfl)).trans (q2.mono fun k _ h => h.1)
  exact ⟨rfl, ⟨H.out.y.fr F ⟨by omega, by omega⟩, ⟨tg, q1⟩, H.out.a.fr F ⟨by omega, by omega⟩, H.out.r.fr F ⟨by omega, by omega⟩, (H.out.b.set 0 _).fr q2 (by omega)⟩, F⟩

set_option maxRecDepth 1000000 in
set_option maxHeartbeats 4000000 in
theorem sign_take (A : World) (B l : Nat) (g : C.G) (a r n : Nat) (h : St A B l g a r true) (hk : C.takes g r = true) (h1 : g.c.frm ≤ g.c.to_) (h2 : g.c.to_ ≤ 4194304) (h3 : g.c.len ≤ 4194304) (h4 : n ≤ 4194304) (h5 : a ≤ 4194304) :
    CallsIn Fence.wide 0 Try.prog 69 (argsN B (a + n)) A fun e A' => e = .returned (.bool true) ∧ St A' B l (C.add g r n) a r true ∧ Fr (fun k => k ≠ B + 1 ∧ k ≠ B + 4) A A' := by
  have cb : A.cell? ⟨B + 4, 0, none⟩ = some (.bool true) := h.b.cell 0 _ rfl
  have fb : A.frozen? ⟨B + 4, 0, none⟩ = false := h.b.frozen 0 _ rfl
  have cr : A.cell? ⟨B + 3, 0, none⟩ = some (.int .i32 (r : Int)) := h.r.cell 0 _ rfl
  have ca : A.cell? ⟨B + 2, 0, none⟩ = some (.int .i64 (a : Int)) := h.a.cell 0 _ rfl
  obtain ⟨tg, hg0⟩ := h.g
  obtain ⟨tg', hg1⟩ : At (A.setCell ⟨B + 4, 0, none⟩ (.bool true)) (B + 1) (cellsG g) := h.g.other _ _ (by omega)
  have hg : ∀ m, ((A.drewN m).setCell ⟨B + 4, 0, none⟩ (.bool true)).heap[B + 1]? = some (.cells (cellsG g) tg' (0, 0)) := fun m => hg1
  have hn : (a : Int) + (n : Int) - (a : Int) = (n : Int) := by omega
  have T := takes_any A (B + 1) g r tg hg0 h1 h2
  rw [hk] at T
  have T := Lib.hid T
  have H := Lib.hid h
  clear h hg1 hk
  refine (callsIn_wide (n := 0)).2 ?_
  unfold argsN
  go_enter Try.func69, Try.ntmps69
  go_wp2_with (first
    | (go_at_call 70; ((with_reducible refine T.out.mono ?_); rintro e w2 ⟨rfl, n2, rfl⟩))
    | (go_at_call 71; ((with_reducible refine (add_any _ _ g r n tg' (hg _) h2 h3 h4).mono ?_); rintro e w' ⟨⟨v, rfl⟩, q1, q2, q3⟩)))
  go_ret
  have F : Fr (fun k => k ≠ B + 1 ∧ k ≠ B + 4) A w' := (((Fr.refl _ A).drewN n2).setCell ⟨B + 4, 0, none⟩ _ (fun _ h => h.2 rfl)).trans (q2.mono fun k _ h => h.1)
  exact ⟨rfl, ⟨H.out.y.fr F ⟨by omega, by omega⟩, ⟨tg', q1⟩, H.out.a.fr F ⟨by omega, by omega⟩, H.out.r.fr F ⟨by omega, by omega⟩, (((H.out.b.drewN n2)).set 0 _).fr q2 (by omega)⟩, F⟩

set_option maxRecDepth 1000000 in
set_option maxHeartbeats 4000000 in
theorem sign_new (A : World) (B l : Nat) (g : C.G) (a r n : Nat) (h : St A B l g a r true) (hk : C.takes g r = false) (h1 : g.c.frm ≤ g.c.to_) (h2 : g.c.to_ ≤ 4194304) (h4 : n ≤ 4194304) (h5 : a ≤ 4194304) (ha : g.c.at_ + g.c.len = a)
    (S : Nat → Prop) (hS : ∀ k, B ≤ k → k < B + 6 → S k) (Jp Jq : World → Prop) (hJ : ∀ A B', Fr (fun k => k < B ∨ B + 6 ≤ k) A B' → Jp A → Jp B')
    (hY : ∀ m, YieldAt Fence.wide 0 Try.prog l #[encC g.c] (A.drewN m) fun e W' => (e = .returned (.bool true) ∧ Jp W' ∧ Fr S (A.drewN m) W') ∨ (e = .returned (.bool false) ∧ Jq W')) :
    CallsIn Fence.wide 0 Try.prog 69 (argsN B (a + n)) A fun e A' =>
      (e = .returned (.bool true) ∧ St A' B l (C.add (C.new g) r n) a r true ∧ Jp A' ∧ Fr (fun k => S k ∧ k ≠ B + 1 ∧ k ≠ B + 4) A A') ∨ (e = .returned (.bool false) ∧ Jq A') := by
  have cb : A.cell? ⟨B + 4, 0, none⟩ = some (.bool true) := h.b.cell 0 _ rfl
  have cr : A.cell? ⟨B + 3, 0, none⟩ = some (.int .i32 (r : Int)) := h.r.cell 0 _ rfl
  have cy : A.cell? ⟨B, 0, none⟩ = some (.func (.yield l) #[] #[]) := h.y.cell 0 _ rfl
  have c0 : A.cell? ⟨B + 1, 0, none⟩ = some (.int .i64 (g.c.at_ : Int)) := h.g.cell 0 _ rfl
  have c1 : A.cell? ⟨B + 1, 1, none⟩ = some (.int .i64 (g.c.len : Int)) := h.g.cell 1 _ rfl
  have c2 : A.cell? ⟨B + 1, 2, none⟩ = some (.int .i64 (g.c.frm : Int)) := h.g.cell 2 _ rfl
  have c3 : A.cell? ⟨B + 1, 3, none⟩ = some (.int .i64 (g.c.to_ : Int)) := h.g.cell 3 _ rfl
  have c4 : A.cell? ⟨B + 1, 4, none⟩ = some (.int .i64 (g.c.cells : Int)) := h.g.cell 4 _ rfl
  obtain ⟨tg, hg0⟩ := h.g
  have T := takes_any A (B + 1) g r tg hg0 h1 h2
  rw [hk] at T
  have T := Lib.hid T
  have H := Lib.hid h
  clear h hk
  refine callsIn_of_wp Try.func69 rfl trivial ?_ rfl
  unfold argsN
  simp only [Try.ntmps69, List.size_toArray, List.length_cons, List.length_nil, Nat.reduceAdd, Nat.reduceSub, Array.replicate_succ, Array.replicate_zero, List.push_toArray, List.append_toArray, List.nil_append, List.cons_append]
  gi_wp2_with (first
    | (refine ⟨trivial, rfl, ?_⟩; gi_at_call 70; ((with_reducible refine (callsIn_wide.2 T.out).mono ?_); rintro e w2 ⟨rfl, n2, rfl⟩; obtain ⟨fn, tmps, assign, body, hy, hR⟩ := hY n2; unfold encC at hy)))
  refine ⟨rfl, hR.mono ?_⟩
  rintro e W3 (⟨rfl, hJ3, hk3⟩ | ⟨rfl, hJ3⟩)
  · have F3 : Fr S A W3 := ((Fr.refl _ A).drewN n2).trans hk3
    have S3 : St W3 B l g a r true := H.out.fr F3 (fun k h1 h2 => hS k h1 (by omega))
    have d0 : W3.cell? ⟨B + 1, 0, none⟩ = some (.int .i64 (g.c.at_ : Int)) := S3.g.cell 0 _ rfl
    have f0 : W3.frozen? ⟨B + 1, 0, none⟩ = false := S3.g.frozen 0 _ rfl
    have d1 : W3.cell? ⟨B + 1, 1, none⟩ = some (.int .i64 (g.c.len : Int)) := S3.g.cell 1 _ rfl
    have f1 : W3.frozen? ⟨B + 1, 1, none⟩ = false := S3.g.frozen 1 _ rfl
    have d2 : W3.cell? ⟨B + 1, 2, none⟩ = some (.int .i64 (g.c.frm : Int)) := S3.g.cell 2 _ rfl
    have f2 : W3.frozen? ⟨B + 1, 2, none⟩ = false := S3.g.frozen 2 _ rfl
    have d3 : W3.cell? ⟨B + 1, 3, none⟩ = some (.int .i64 (g.c.to_ : Int)) := S3.g.cell 3 _ rfl
    have f3 : W3.frozen? ⟨B + 1, 3, none⟩ = false := S3.g.frozen 3 _ rfl
    have d4 : W3.cell? ⟨B + 1, 4, none⟩ = some (.int .i64 (g.c.cells : Int)) := S3.g.cell 4 _ rfl
    have f4 : W3.frozen? ⟨B + 1, 4, none⟩ = false := S3.g.frozen 4 _ rfl
    have d5 : W3.cell? ⟨B + 1, 5, none⟩ = some (.int .i32 (g.first : Int)) := S3.g.cell 5 _ rfl
    have f5 : W3.frozen? ⟨B + 1, 5, none⟩ = false := S3.g.frozen 5 _ rfl
    have d6 : W3.cell? ⟨B + 1, 6, none⟩ = some (.int .i32 (g.last : Int)) := S3.g.cell 6 _ rfl
    have f6 : W3.frozen? ⟨B + 1, 6, none⟩ = false := S3.g.frozen 6 _ rfl
    have d7 : W3.cell? ⟨B + 1, 7, none⟩ = some (.bool g.arrow) := S3.g.cell 7 _ rfl
    have f7 : W3.frozen? ⟨B + 1, 7, none⟩ = false := S3.g.frozen 7 _ rfl
    have cr3 : W3.cell? ⟨B + 3, 0, none⟩ = some (.int .i32 (r : Int)) := S3.r.cell 0 _ rfl
    have ca3 : W3.cell? ⟨B + 2, 0, none⟩ = some (.int .i64 (a : Int)) := S3.a.cell 0 _ rfl
    have cb3 : W3.cell? ⟨B + 4, 0, none⟩ = some (.bool true) := S3.b.cell 0 _ rfl
    have fb3 : W3.frozen? ⟨B + 4, 0, none⟩ = false := S3.b.frozen 0 _ rfl
    have SH := Lib.hid S3
    have FH := Lib.hid F3
    have JH := Lib.hid hJ3
    clear hR hy cb cr cy c0 c1 c2 c3 c4 hg0 T hY S3 F3 hJ3
    have hn : (a : Int) + (n : Int) - (a : Int) = (n : Int) := by omega
    obtain ⟨tn, G4⟩ : At (((((((((W3.setCell ⟨B + 1, 0, none⟩ (.int .i64 (a : Int))).setCell ⟨B + 1, 1, none⟩ (.int .i64 0)).setCell ⟨B + 1, 2, none⟩ (.int .i64 (g.c.to_ : Int))).setCell ⟨B + 1, 3, none⟩ (.int .i64 (g.c.to_ : Int))).setCell ⟨B + 1, 4, none⟩ (.int .i64 0)).setCell ⟨B + 1, 5, none⟩ (.int .i32 0)).setCell ⟨B + 1, 6, none⟩ (.int .i32 0)).setCell ⟨B + 1, 7, none⟩ (.bool false)).setCell ⟨B + 4, 0, none⟩ (.bool true)) (B + 1) (cellsG (C.new g)) := by
      have := (((((((((SH.out.g.set 0 (.int .i64 (a : Int))).set 1 (.int .i64 0)).set 2 (.int .i64 (g.c.to_ : Int))).set 3 (.int .i64 (g.c.to_ : Int))).set 4 (.int .i64 0)).set 5 (.int .i32 0)).set 6 (.int .i32 0)).set 7 (.bool false)).other (B' := B + 4) 0 (.bool true) (by omega))
      have e : (((((((((cellsG g).setIfInBounds 0 (.int .i64 (a : Int))).setIfInBounds 1 (.int .i64 0)).setIfInBounds 2 (.int .i64 (g.c.to_ : Int))).setIfInBounds 3 (.int .i64 (g.c.to_ : Int))).setIfInBounds 4 (.int .i64 0)).setIfInBounds 5 (.int .i32 0)).setIfInBounds 6 (.int .i32 0)).setIfInBounds 7 (.bool false)) = cellsG (C.new g) := by
        simp [cellsG, C.new, ha]
      rw [e] at this
      exact this
    gi_wp2
    refine ⟨trivial, rfl, ?_⟩
    gi_at_call 71
    try rw [hn]
    refine (callsIn_wide.2 (add_any _ _ (C.new g) r n tn G4 h2 (Nat.zero_le _) h4)).mono ?_
    rintro e w' ⟨⟨v, rfl⟩, q1, q2, q3⟩
    gi_wp2
    go_ret
    have F4 : Fr (fun k => k ≠ B + 1 ∧ k ≠ B + 4) W3 w' := by
      refine Fr.trans ?_ (q2.mono fun k _ h => h.1)
      repeat (refine Fr.setCell ?_ _ _ (fun _ h => by first | exact h.1 rfl | exact h.2 rfl))
      exact Fr.refl _ _
    refine .inl ⟨rfl, ⟨SH.out.y.fr F4 ⟨by omega, by omega⟩, ⟨tn, q1⟩, SH.out.a.fr F4 ⟨by omega, by omega⟩, SH.out.r.fr F4 ⟨by omega, by omega⟩, ?_⟩, hJ _ _ (F4.mono fun k _ h => ⟨by omega, by omega⟩) JH.out, (FH.out.mono fun k _ h => h.1).trans (F4.mono fun k _ h => h.2)⟩
    have hb4 : At (((((((((W3.setCell ⟨B + 1, 0, none⟩ (.int .i64 (a : Int))).setCell ⟨B + 1, 1, none⟩ (.int .i64 0)).setCell ⟨B + 1, 2, none⟩ (.int .i64 (g.c.to_ : Int))).setCell ⟨B + 1, 3, none⟩ (.int .i64 (g.c.to_ : Int))).setCell ⟨B + 1, 4, none⟩ (.int .i64 0)).setCell ⟨B + 1, 5, none⟩ (.int .i32 0)).setCell ⟨B + 1, 6, none⟩ (.int .i32 0)).setCell ⟨B + 1, 7, none⟩ (.bool false)).setCell ⟨B + 4, 0, none⟩ (.bool true)) (B + 4) #[.bool true] :=
      ((((((((SH.out.b.other (B' := B + 1) 0 (.int .i64 (a : Int)) (by omega)).other (B' := B + 1) 1 (.int .i64 0) (by omega)).other (B' := B + 1) 2 (.int .i64 (g.c.to_ : Int)) (by omega)).other (B' := B + 1) 3 (.int .i64 (g.c.to_ : Int)) (by omega)).other (B' := B + 1) 4 (.int .i64 0) (by omega)).other (B' := B + 1) 5 (.int .i32 0) (by omega)).other (B' := B + 1) 6 (.int .i32 0) (by omega)).other (B' := B + 1) 7 (.bool false) (by omega)).set 0 (.bool true)
    exact hb4.fr q2 (by omega)
  · clear hR hy cb cr cy c0 c1 c2 c3 c4 hg0 T hY
    gi_wp2
    go_ret
    exact .inr ⟨rfl, hJ3⟩
end Go.Proofs.Ytclblidfamabdaa
