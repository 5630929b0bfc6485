/- Fronts of signs: Go's two tables, FullRune, the program's front. -/
import Derived.Test.YtokbmihjpllgpaaDoorHead
import Derived.Lib.LaidTab
import GoSem.PinnedTables
set_option linter.unusedVariables false
set_option linter.unusedSimpArgs false
namespace Go.Proofs.YtokbmihjpllgpaaDoor
open Go.RowKit Go.Shelf Go.Lib Go.BigFrame
attribute [local go_sem] Oper.semAt_some

namespace U
/-- What the table of first bytes holds. -/
def FF (b : Nat) : Nat := if b < 128 then 240 else if b < 194 then 241 else if b < 224 then 2 else if b = 224 then 19 else if b < 237 then 3 else if b = 237 then 35 else if b < 240 then 3 else if b = 240 then 52 else if b < 244 then 4 else if b = 244 then 68 else 241
/-- How many bytes a first byte asks; the bounds of the byte behind it. -/
def ask (b : Nat) : Nat := if b < 194 then 1 else if b < 224 then 2 else if b < 240 then 3 else if b < 245 then 4 else 1
def lo (b : Nat) : Nat := if b = 224 then 160 else if b = 240 then 144 else 128
def hi (b : Nat) : Nat := if b = 237 then 159 else if b = 244 then 143 else 191
/-- Are these bytes a front of some sign's, and not all of them? -/
def frt : List Nat → Bool
  | [b0] => decide (1 < ask b0)
  | [b0, b1] => decide (2 < ask b0 ∧ lo b0 ≤ b1 ∧ b1 ≤ hi b0)
  | [b0, b1, b2] => decide (3 < ask b0 ∧ lo b0 ≤ b1 ∧ b1 ≤ hi b0 ∧ 128 ≤ b2 ∧ b2 ≤ 191)
  | _ => false
/-- The classes of first bytes. -/
theorem FF_cases (b : Nat) (hb : b < 256) : (FF b = 240 ∧ ask b = 1) ∨ (FF b = 241 ∧ ask b = 1) ∨ (FF b = 2 ∧ ask b = 2 ∧ lo b = 128 ∧ hi b = 191) ∨ (FF b = 19 ∧ ask b = 3 ∧ lo b = 160 ∧ hi b = 191) ∨ (FF b = 3 ∧ ask b = 3 ∧ lo b = 128 ∧ hi b = 191) ∨
    (FF b = 35 ∧ ask b = 3 ∧ lo b = 128 ∧ hi b = 159) ∨ (FF b = 52 ∧ ask b = 4 ∧ lo b = 144 ∧ hi b = 191) ∨ (FF b = 4 ∧ ask b = 4 ∧ lo b = 128 ∧ hi b = 191) ∨ (FF b = 68 ∧ ask b = 4 ∧ lo b = 128 ∧ hi b = 143) := by
  have : ∀ b : Fin 256, (FF b.1 = 240 ∧ ask b.1 = 1) ∨ (FF b.1 = 241 ∧ ask b.1 = 1) ∨ (FF b.1 = 2 ∧ ask b.1 = 2 ∧ lo b.1 = 128 ∧ hi b.1 = 191) ∨ (FF b.1 = 19 ∧ ask b.1 = 3 ∧ lo b.1 = 160 ∧ hi b.1 = 191) ∨ (FF b.1 = 3 ∧ ask b.1 = 3 ∧ lo b.1 = 128 ∧ hi b.1 = 191) ∨
    (FF b.1 = 35 ∧ ask b.1 = 3 ∧ lo b.1 = 128 ∧ hi b.1 = 159) ∨ (FF b.1 = 52 ∧ ask b.1 = 4 ∧ lo b.1 = 144 ∧ hi b.1 = 191) ∨ (FF b.1 = 4 ∧ ask b.1 = 4 ∧ lo b.1 = 128 ∧ hi b.1 = 191) ∨ (FF b.1 = 68 ∧ ask b.1 = 4 ∧ lo b.1 = 128 ∧ hi b.1 = 143) := by decide +kernel
  exact this ⟨b, hb⟩
theorem first_is : ∀ b : Fin 256, Go.Pinned.utf8FirstZ.getD b.1 0 = FF b.1 := by decide +kernel
end U

/-- Go's two tables, as a world holds them. -/
structure Tabs (w : World) : Prop where
  first : ∀ b : Nat, b < 256 → w.cell? ⟨0, b, none⟩ = some (.int .u8 (U.FF b : Int))
  l0 : w.cell? ⟨1, 0, none⟩ = some (.int .u8 128)
  h0 : w.cell? ⟨1, 1, none⟩ = some (.int .u8 191)
  l1 : w.cell? ⟨1, 2, none⟩ = some (.int .u8 160)
  h1 : w.cell? ⟨1, 3, none⟩ = some (.int .u8 191)
  l2 : w.cell? ⟨1, 4, none⟩ = some (.int .u8 128)
  h2 : w.cell? ⟨1, 5, none⟩ = some (.int .u8 159)
  l3 : w.cell? ⟨1, 6, none⟩ = some (.int .u8 144)
  h3 : w.cell? ⟨1, 7, none⟩ = some (.int .u8 191)
  l4 : w.cell? ⟨1, 8, none⟩ = some (.int .u8 128)
  h4 : w.cell? ⟨1, 9, none⟩ = some (.int .u8 143)
theorem Tabs.to {S : Nat → Prop} {w w' : World} (T : Tabs w) (h : Fr S w w') (h0 : S 0) (h1 : S 1) : Tabs w' :=
  ⟨fun b hb => h.cell (T.first b hb) h0, h.cell T.l0 h1, h.cell T.h0 h1, h.cell T.l1 h1, h.cell T.h1 h1, h.cell T.l2 h1, h.cell T.h2 h1, h.cell T.l3 h1, h.cell T.h3 h1, h.cell T.l4 h1, h.cell T.h4 h1⟩
theorem Tabs.size {w : World} (T : Tabs w) : 2 ≤ w.heap.size := by have := World.block_lt_of_cell? w _ T.l0; simp at this; omega
theorem Tabs.below {w w' : World} {n : Nat} (T : Tabs w) (h : Below n w w') (hn : 2 ≤ n) : Tabs w' :=
  T.to (Fr.of_below (S := fun k => k < n) h (fun k _ h => h)) (by omega) (by omega)

theorem two_cells {W : World} {k : Nat} {u v : Value} {t : TypeId} {r} (h : W.heap[k]? = some (.cells #[u, v] t r)) : W.cell? ⟨k, 0, none⟩ = some u ∧ W.cell? ⟨k, 1, none⟩ = some v := by
  constructor <;> simp [World.cell?, h]

theorem below_dN {n k : Nat} {a b : World} (h : Below n a b) : Below n a (b.drewN k) := below_dn h k

set_option maxRecDepth 1000000 in
set_option maxHeartbeats 4000000 in
theorem full1 (g o cap b0 : Nat) (w : World) (hb : b0 < 256) (hcap : 1 ≤ cap) (c0 : w.cell? ⟨g, o, none⟩ = some (.int .u8 (b0 : Int))) (T : Tabs w) :
    Calls Tryd.prog 28 #[.slice (some ⟨g, o, none⟩) 1 cap] w fun e w' => e = .returned (.bool (!U.frt [b0])) ∧ Below w.heap.size w w' := by
  have t0 := T.first b0 hb
  have hg := World.block_lt_of_cell? w _ c0
  obtain ⟨_, l0, h0, l1, h1, l2, h2, l3, h3, l4, h4⟩ := T
  have hs1 := World.block_lt_of_cell? w _ l0
  have N8 : ∀ L H : Int, (w.alloc (.cells #[.int .u8 L, .int .u8 H] 69)).cell? ⟨w.heap.size, 0, none⟩ = some (.int .u8 L) ∧ (w.alloc (.cells #[.int .u8 L, .int .u8 H] 69)).cell? ⟨w.heap.size, 1, none⟩ = some (.int .u8 H) := fun L H => by
    exact two_cells (World.alloc_heap_new w _)
  have O8 : ∀ (L H : Int) a v, w.cell? a = some v → (w.alloc (.cells #[.int .u8 L, .int .u8 H] 69)).cell? a = some v := fun L H a v h => (World.cell?_of_block (Below.heap_alloc _ _ _ (World.block_lt_of_cell? w _ h))).trans h
  have N8 := Lib.hid N8
  have O8 := Lib.hid O8
  rcases U.FF_cases b0 hb with ⟨e, e2⟩ | ⟨e, e2⟩ | ⟨e, e2, e3, e4⟩ | ⟨e, e2, e3, e4⟩ | ⟨e, e2, e3, e4⟩ | ⟨e, e2, e3, e4⟩ | ⟨e, e2, e3, e4⟩ | ⟨e, e2, e3, e4⟩ | ⟨e, e2, e3, e4⟩
  · rw [e] at t0
    simp only [U.frt, e2]
    clear e e2
    go_enter Tryd.func28, Tryd.ntmps28
    go_wp2
    go_ret
    exact ⟨by simp, Below.refl _ _⟩
  · rw [e] at t0
    simp only [U.frt, e2]
    clear e e2
    go_enter Tryd.func28, Tryd.ntmps28
    go_wp2
    go_ret
    exact ⟨by simp, Below.refl _ _⟩
  · rw [e] at t0
    simp only [U.frt, e2]
    clear e e2
    have n0 := (N8.out 128 191).1
    have n1 := (N8.out 128 191).2
    have d0 := O8.out 128 191 _ _ c0
    go_enter Tryd.func28, Tryd.ntmps28
    go_wp2
    go_quiet (fail)
    go_wp2
    go_ret
    refine ⟨by simp, ?_⟩
    exact below_dN ((Below.refl _ _).alloc (Nat.le_refl _) _)
  · rw [e] at t0
    simp only [U.frt, e2]
    clear e e2
    have n0 := (N8.out 160 191).1
    have n1 := (N8.out 160 191).2
    have d0 := O8.out 160 191 _ _ c0
    go_enter Tryd.func28, Tryd.ntmps28
    go_wp2
    go_quiet (fail)
    go_wp2
    go_ret
    refine ⟨by simp, ?_⟩
    exact below_dN ((Below.refl _ _).alloc (Nat.le_refl _) _)
  · rw [e] at t0
    simp only [U.frt, e2]
    clear e e2
    have n0 := (N8.out 128 191).1
    have n1 := (N8.out 128 191).2
    have d0 := O8.out 128 191 _ _ c0
    go_enter Tryd.func28, Tryd.ntmps28
    go_wp2
    go_quiet (fail)
    go_wp2
    go_ret
    refine ⟨by simp, ?_⟩
    exact below_dN ((Below.refl _ _).alloc (Nat.le_refl _) _)
  · rw [e] at t0
    simp only [U.frt, e2]
    clear e e2
    have n0 := (N8.out 128 159).1
    have n1 := (N8.out 128 159).2
    have d0 := O8.out 128 159 _ _ c0
    go_enter Tryd.func28, Tryd.ntmps28
    go_wp2
    go_quiet (fail)
    go_wp2
    go_ret
    refine ⟨by simp, ?_⟩
    exact below_dN ((Below.refl _ _).alloc (Nat.le_refl _) _)
  · rw [e] at t0
    simp only [U.frt, e2]
    clear e e2
    have n0 := (N8.out 144 191).1
    have n1 := (N8.out 144 191).2
    have d0 := O8.out 144 191 _ _ c0
    go_enter Tryd.func28, Tryd.ntmps28
    go_wp2
    go_quiet (fail)
    go_wp2
    go_ret
    refine ⟨by simp, ?_⟩
    exact below_dN ((Below.refl _ _).alloc (Nat.le_refl _) _)
  · rw [e] at t0
    simp only [U.frt, e2]
    clear e e2
    have n0 := (N8.out 128 191).1
    have n1 := (N8.out 128 191).2
    have d0 := O8.out 128 191 _ _ c0
    go_enter Tryd.func28, Tryd.ntmps28
    go_wp2
    go_quiet (fail)
    go_wp2
    go_ret
    refine ⟨by simp, ?_⟩
    exact below_dN ((Below.refl _ _).alloc (Nat.le_refl _) _)
  · rw [e] at t0
    simp only [U.frt, e2]
    clear e e2
    have n0 := (N8.out 128 143).1
    have n1 := (N8.out 128 143).2
    have d0 := O8.out 128 143 _ _ c0
    go_enter Tryd.func28, Tryd.ntmps28
    go_wp2
    go_quiet (fail)
    go_wp2
    go_ret
    refine ⟨by simp, ?_⟩
    exact below_dN ((Below.refl _ _).alloc (Nat.le_refl _) _)

set_option maxRecDepth 1000000 in
set_option maxHeartbeats 4000000 in
theorem full2 (g o cap b0 b1 : Nat) (w : World) (hb : b0 < 256) (hcap : 2 ≤ cap) (c0 : w.cell? ⟨g, o, none⟩ = some (.int .u8 (b0 : Int))) (c1 : w.cell? ⟨g, o + 1, none⟩ = some (.int .u8 (b1 : Int))) (T : Tabs w) :
    Calls Tryd.prog 28 #[.slice (some ⟨g, o, none⟩) 2 cap] w fun e w' => e = .returned (.bool (!U.frt [b0, b1])) ∧ Below w.heap.size w w' := by
  have t0 := T.first b0 hb
  have hg := World.block_lt_of_cell? w _ c0
  obtain ⟨_, l0, h0, l1, h1, l2, h2, l3, h3, l4, h4⟩ := T
  have hs1 := World.block_lt_of_cell? w _ l0
  have N8 : ∀ L H : Int, (w.alloc (.cells #[.int .u8 L, .int .u8 H] 69)).cell? ⟨w.heap.size, 0, none⟩ = some (.int .u8 L) ∧ (w.alloc (.cells #[.int .u8 L, .int .u8 H] 69)).cell? ⟨w.heap.size, 1, none⟩ = some (.int .u8 H) := fun L H => by
    exact two_cells (World.alloc_heap_new w _)
  have O8 : ∀ (L H : Int) a v, w.cell? a = some v → (w.alloc (.cells #[.int .u8 L, .int .u8 H] 69)).cell? a = some v := fun L H a v h => (World.cell?_of_block (Below.heap_alloc _ _ _ (World.block_lt_of_cell? w _ h))).trans h
  have N8 := Lib.hid N8
  have O8 := Lib.hid O8
  rcases U.FF_cases b0 hb with ⟨e, e2⟩ | ⟨e, e2⟩ | ⟨e, e2, e3, e4⟩ | ⟨e, e2, e3, e4⟩ | ⟨e, e2, e3, e4⟩ | ⟨e, e2, e3, e4⟩ | ⟨e, e2, e3, e4⟩ | ⟨e, e2, e3, e4⟩ | ⟨e, e2, e3, e4⟩
  · rw [e] at t0
    simp only [U.frt, e2]
    clear e e2
    go_enter Tryd.func28, Tryd.ntmps28
    go_wp2
    go_ret
    exact ⟨by simp, Below.refl _ _⟩
  · rw [e] at t0
    simp only [U.frt, e2]
    clear e e2
    go_enter Tryd.func28, Tryd.ntmps28
    go_wp2
    go_ret
    exact ⟨by simp, Below.refl _ _⟩
  · rw [e] at t0
    simp only [U.frt, e2, e3, e4]
    clear e e2
    go_enter Tryd.func28, Tryd.ntmps28
    go_wp2
    go_ret
    exact ⟨by simp, Below.refl _ _⟩
  · rw [e] at t0
    simp only [U.frt, e2, e3, e4]
    clear e e2
    by_cases p1 : b1 < 160
    · have p1i : (b1 : Int) < 160 := by omega
      have n0 := (N8.out 160 191).1
      have n1 := (N8.out 160 191).2
      have d0 := O8.out 160 191 _ _ c0
      have d1 := O8.out 160 191 _ _ c1
      go_enter Tryd.func28, Tryd.ntmps28
      go_wp2
      go_quiet (fail)
      go_wp2
      go_ret
      refine ⟨r_bool (by simp; omega), ?_⟩
      exact below_dN ((Below.refl _ _).alloc (Nat.le_refl _) _)
    have p1i : ¬ ((b1 : Int) < 160) := by omega
    by_cases p2 : 191 < b1
    · have p2i : 191 < (b1 : Int) := by omega
      have n0 := (N8.out 160 191).1
      have n1 := (N8.out 160 191).2
      have d0 := O8.out 160 191 _ _ c0
      have d1 := O8.out 160 191 _ _ c1
      go_enter Tryd.func28, Tryd.ntmps28
      go_wp2
      go_quiet (fail)
      go_wp2
      go_ret
      refine ⟨r_bool (by simp; omega), ?_⟩
      exact below_dN ((Below.refl _ _).alloc (Nat.le_refl _) _)
    have p2i : ¬ (191 < (b1 : Int)) := by omega
    have n0 := (N8.out 160 191).1
    have n1 := (N8.out 160 191).2
    have d0 := O8.out 160 191 _ _ c0
    have d1 := O8.out 160 191 _ _ c1
    go_enter Tryd.func28, Tryd.ntmps28
    go_wp2
    go_quiet (fail)
    go_wp2
    go_ret
    refine ⟨r_bool (by simp; omega), ?_⟩
    exact below_dN ((Below.refl _ _).alloc (Nat.le_refl _) _)
  · rw [e] at t0
    simp only [U.frt, e2, e3, e4]
    clear e e2
    by_cases p1 : b1 < 128
    · have p1i : (b1 : Int) < 128 := by omega
      have n0 := (N8.out 128 191).1
      have n1 := (N8.out 128 191).2
      have d0 := O8.out 128 191 _ _ c0
      have d1 := O8.out 128 191 _ _ c1
      go_enter Tryd.func28, Tryd.ntmps28
      go_wp2
      go_quiet (fail)
      go_wp2
      go_ret
      refine ⟨r_bool (by simp; omega), ?_⟩
      exact below_dN ((Below.refl _ _).alloc (Nat.le_refl _) _)
    have p1i : ¬ ((b1 : Int) < 128) := by omega
    by_cases p2 : 191 < b1
    · have p2i : 191 < (b1 : Int) := by omega
      have n0 := (N8.out 128 191).1
      have n1 := (N8.out 128 191).2
      have d0 := O8.out 128 191 _ _ c0
      have d1 := O8.out 128 191 _ _ c1
      go_enter Tryd.func28, Tryd.ntmps28
      go_wp2
      go_quiet (fail)
      go_wp2
      go_ret
      refine ⟨r_bool (by simp; omega), ?_⟩
      exact below_dN ((Below.refl _ _).alloc (Nat.le_refl _) _)
    have p2i : ¬ (191 < (b1 : Int)) := by omega
    have n0 := (N8.out 128 191).1
    have n1 := (N8.out 128 191).2
    have d0 := O8.out 128 191 _ _ c0
    have d1 := O8.out 128 191 _ _ c1
    go_enter Tryd.func28, Tryd.ntmps28
    go_wp2
    go_quiet (fail)
    go_wp2
    go_ret
    refine ⟨r_bool (by simp; omega), ?_⟩
    exact below_dN ((Below.refl _ _).alloc (Nat.le_refl _) _)
  · rw [e] at t0
    simp only [U.frt, e2, e3, e4]
    clear e e2
    by_cases p1 : b1 < 128
    · have p1i : (b1 : Int) < 128 := by omega
      have n0 := (N8.out 128 159).1
      have n1 := (N8.out 128 159).2
      have d0 := O8.out 128 159 _ _ c0
      have d1 := O8.out 128 159 _ _ c1
      go_enter Tryd.func28, Tryd.ntmps28
      go_wp2
      go_quiet (fail)
      go_wp2
      go_ret
      refine ⟨r_bool (by simp; omega), ?_⟩
      exact below_dN ((Below.refl _ _).alloc (Nat.le_refl _) _)
    have p1i : ¬ ((b1 : Int) < 128) := by omega
    by_cases p2 : 159 < b1
    · have p2i : 159 < (b1 : Int) := by omega
      have n0 := (N8.out 128 159).1
      have n1 := (N8.out 128 159).2
      have d0 := O8.out 128 159 _ _ c0
      have d1 := O8.out 128 159 _ _ c1
      go_enter Tryd.func28, Tryd.ntmps28
      go_wp2
      go_quiet (fail)
      go_wp2
      go_ret
      refine ⟨r_bool (by simp; omega), ?_⟩
      exact below_dN ((Below.refl _ _).alloc (Nat.le_refl _) _)
    have p2i : ¬ (159 < (b1 : Int)) := by omega
    have n0 := (N8.out 128 159).1
    have n1 := (N8.out 128 159).2
    have d0 := O8.out 128 159 _ _ c0
    have d1 := O8.out 128 159 _ _ c1
    go_enter Tryd.func28, Tryd.ntmps28
    go_wp2
    go_quiet (fail)
    go_wp2
    go_ret
    refine ⟨r_bool (by simp; omega), ?_⟩
    exact below_dN ((Below.refl _ _).alloc (Nat.le_refl _) _)
  · rw [e] at t0
    simp only [U.frt, e2, e3, e4]
    clear e e2
    by_cases p1 : b1 < 144
    · have p1i : (b1 : Int) < 144 := by omega
      have n0 := (N8.out 144 191).1
      have n1 := (N8.out 144 191).2
      have d0 := O8.out 144 191 _ _ c0
      have d1 := O8.out 144 191 _ _ c1
      go_enter Tryd.func28, Tryd.ntmps28
      go_wp2
      go_quiet (fail)
      go_wp2
      go_ret
      refine ⟨r_bool (by simp; omega), ?_⟩
      exact below_dN ((Below.refl _ _).alloc (Nat.le_refl _) _)
    have p1i : ¬ ((b1 : Int) < 144) := by omega
    by_cases p2 : 191 < b1
    · have p2i : 191 < (b1 : Int) := by omega
      have n0 := (N8.out 144 191).1
      have n1 := (N8.out 144 191).2
      have d0 := O8.out 144 191 _ _ c0
      have d1 := O8.out 144 191 _ _ c1
      go_enter Tryd.func28, Tryd.ntmps28
      go_wp2
      go_quiet (fail)
      go_wp2
      go_ret
      refine ⟨r_bool (by simp; omega), ?_⟩
      exact below_dN ((Below.refl _ _).alloc (Nat.le_refl _) _)
    have p2i : ¬ (191 < (b1 : Int)) := by omega
    have n0 := (N8.out 144 191).1
    have n1 := (N8.out 144 191).2
    have d0 := O8.out 144 191 _ _ c0
    have d1 := O8.out 144 191 _ _ c1
    go_enter Tryd.func28, Tryd.ntmps28
    go_wp2
    go_quiet (fail)
    go_wp2
    go_ret
    refine ⟨r_bool (by simp; omega), ?_⟩
    exact below_dN ((Below.refl _ _).alloc (Nat.le_refl _) _)
  · rw [e] at t0
    simp only [U.frt, e2, e3, e4]
    clear e e2
    by_cases p1 : b1 < 128
    · have p1i : (b1 : Int) < 128 := by omega
      have n0 := (N8.out 128 191).1
      have n1 := (N8.out 128 191).2
      have d0 := O8.out 128 191 _ _ c0
      have d1 := O8.out 128 191 _ _ c1
      go_enter Tryd.func28, Tryd.ntmps28
      go_wp2
      go_quiet (fail)
      go_wp2
      go_ret
      refine ⟨r_bool (by simp; omega), ?_⟩
      exact below_dN ((Below.refl _ _).alloc (Nat.le_refl _) _)
    have p1i : ¬ ((b1 : Int) < 128) := by omega
    by_cases p2 : 191 < b1
    · have p2i : 191 < (b1 : Int) := by omega
      have n0 := (N8.out 128 191).1
      have n1 := (N8.out 128 191).2
      have d0 := O8.out 128 191 _ _ c0
      have d1 := O8.out 128 191 _ _ c1
      go_enter Tryd.func28, Tryd.ntmps28
      go_wp2
      go_quiet (fail)
      go_wp2
      go_ret
      refine ⟨r_bool (by simp; omega), ?_⟩
      exact below_dN ((Below.refl _ _).alloc (Nat.le_refl _) _)
    have p2i : ¬ (191 < (b1 : Int)) := by omega
    have n0 := (N8.out 128 191).1
    have n1 := (N8.out 128 191).2
    have d0 := O8.out 128 191 _ _ c0
    have d1 := O8.out 128 191 _ _ c1
    go_enter Tryd.func28, Tryd.ntmps28
    go_wp2
    go_quiet (fail)
    go_wp2
    go_ret
    refine ⟨r_bool (by simp; omega), ?_⟩
    exact below_dN ((Below.refl _ _).alloc (Nat.le_refl _) _)
  · rw [e] at t0
    simp only [U.frt, e2, e3, e4]
    clear e e2
    by_cases p1 : b1 < 128
    · have p1i : (b1 : Int) < 128 := by omega
      have n0 := (N8.out 128 143).1
      have n1 := (N8.out 128 143).2
      have d0 := O8.out 128 143 _ _ c0
      have d1 := O8.out 128 143 _ _ c1
      go_enter Tryd.func28, Tryd.ntmps28
      go_wp2
      go_quiet (fail)
      go_wp2
      go_ret
      refine ⟨r_bool (by simp; omega), ?_⟩
      exact below_dN ((Below.refl _ _).alloc (Nat.le_refl _) _)
    have p1i : ¬ ((b1 : Int) < 128) := by omega
    by_cases p2 : 143 < b1
    · have p2i : 143 < (b1 : Int) := by omega
      have n0 := (N8.out 128 143).1
      have n1 := (N8.out 128 143).2
      have d0 := O8.out 128 143 _ _ c0
      have d1 := O8.out 128 143 _ _ c1
      go_enter Tryd.func28, Tryd.ntmps28
      go_wp2
      go_quiet (fail)
      go_wp2
      go_ret
      refine ⟨r_bool (by simp; omega), ?_⟩
      exact below_dN ((Below.refl _ _).alloc (Nat.le_refl _) _)
    have p2i : ¬ (143 < (b1 : Int)) := by omega
    have n0 := (N8.out 128 143).1
    have n1 := (N8.out 128 143).2
    have d0 := O8.out 128 143 _ _ c0
    have d1 := O8.out 128 143 _ _ c1
    go_enter Tryd.func28, Tryd.ntmps28
    go_wp2
    go_quiet (fail)
    go_wp2
    go_ret
    refine ⟨r_bool (by simp; omega), ?_⟩
    exact below_dN ((Below.refl _ _).alloc (Nat.le_refl _) _)

set_option maxRecDepth 1000000 in
set_option maxHeartbeats 4000000 in
theorem full3 (g o cap b0 b1 b2 : Nat) (w : World) (hb : b0 < 256) (hcap : 3 ≤ cap) (c0 : w.cell? ⟨g, o, none⟩ = some (.int .u8 (b0 : Int))) (c1 : w.cell? ⟨g, o + 1, none⟩ = some (.int .u8 (b1 : Int))) (c2 : w.cell? ⟨g, o + 2, none⟩ = some (.int .u8 (b2 : Int))) (T : Tabs w) :
    Calls Tryd.prog 28 #[.slice (some ⟨g, o, none⟩) 3 cap] w fun e w' => e = .returned (.bool (!U.frt [b0, b1, b2])) ∧ Below w.heap.size w w' := by
  have t0 := T.first b0 hb
  have hg := World.block_lt_of_cell? w _ c0
  obtain ⟨_, l0, h0, l1, h1, l2, h2, l3, h3, l4, h4⟩ := T
  have hs1 := World.block_lt_of_cell? w _ l0
  have N8 : ∀ L H : Int, (w.alloc (.cells #[.int .u8 L, .int .u8 H] 69)).cell? ⟨w.heap.size, 0, none⟩ = some (.int .u8 L) ∧ (w.alloc (.cells #[.int .u8 L, .int .u8 H] 69)).cell? ⟨w.heap.size, 1, none⟩ = some (.int .u8 H) := fun L H => by
    exact two_cells (World.alloc_heap_new w _)
  have O8 : ∀ (L H : Int) a v, w.cell? a = some v → (w.alloc (.cells #[.int .u8 L, .int .u8 H] 69)).cell? a = some v := fun L H a v h => (World.cell?_of_block (Below.heap_alloc _ _ _ (World.block_lt_of_cell? w _ h))).trans h
  have N8 := Lib.hid N8
  have O8 := Lib.hid O8
  rcases U.FF_cases b0 hb with ⟨e, e2⟩ | ⟨e, e2⟩ | ⟨e, e2, e3, e4⟩ | ⟨e, e2, e3, e4⟩ | ⟨e, e2, e3, e4⟩ | ⟨e, e2, e3, e4⟩ | ⟨e, e2, e3, e4⟩ | ⟨e, e2, e3, e4⟩ | ⟨e, e2, e3, e4⟩
  · rw [e] at t0
    simp only [U.frt, e2]
    clear e e2
    go_enter Tryd.func28, Tryd.ntmps28
    go_wp2
    go_ret
    exact ⟨by simp, Below.refl _ _⟩
  · rw [e] at t0
    simp only [U.frt, e2]
    clear e e2
    go_enter Tryd.func28, Tryd.ntmps28
    go_wp2
    go_ret
    exact ⟨by simp, Below.refl _ _⟩
  · rw [e] at t0
    simp only [U.frt, e2, e3, e4]
    clear e e2
    go_enter Tryd.func28, Tryd.ntmps28
    go_wp2
    go_ret
    exact ⟨by simp, Below.refl _ _⟩
  · rw [e] at t0
    simp only [U.frt, e2, e3, e4]
    clear e e2
    go_enter Tryd.func28, Tryd.ntmps28
    go_wp2
    go_ret
    exact ⟨by simp, Below.refl _ _⟩
  · rw [e] at t0
    simp only [U.frt, e2, e3, e4]
    clear e e2
    go_enter Tryd.func28, Tryd.ntmps28
    go_wp2
    go_ret
    exact ⟨by simp, Below.refl _ _⟩
  · rw [e] at t0
    simp only [U.frt, e2, e3, e4]
    clear e e2
    go_enter Tryd.func28, Tryd.ntmps28
    go_wp2
    go_ret
    exact ⟨by simp, Below.refl _ _⟩
  · rw [e] at t0
    simp only [U.frt, e2, e3, e4]
    clear e e2
    by_cases p1 : b1 < 144
    · have p1i : (b1 : Int) < 144 := by omega
      have n0 := (N8.out 144 191).1
      have n1 := (N8.out 144 191).2
      have d0 := O8.out 144 191 _ _ c0
      have d1 := O8.out 144 191 _ _ c1
      have d2 := O8.out 144 191 _ _ c2
      go_enter Tryd.func28, Tryd.ntmps28
      go_wp2
      go_quiet (fail)
      go_wp2
      go_ret
      refine ⟨r_bool (by simp; omega), ?_⟩
      exact below_dN ((Below.refl _ _).alloc (Nat.le_refl _) _)
    have p1i : ¬ ((b1 : Int) < 144) := by omega
    by_cases p2 : 191 < b1
    · have p2i : 191 < (b1 : Int) := by omega
      have n0 := (N8.out 144 191).1
      have n1 := (N8.out 144 191).2
      have d0 := O8.out 144 191 _ _ c0
      have d1 := O8.out 144 191 _ _ c1
      have d2 := O8.out 144 191 _ _ c2
      go_enter Tryd.func28, Tryd.ntmps28
      go_wp2
      go_quiet (fail)
      go_wp2
      go_ret
      refine ⟨r_bool (by simp; omega), ?_⟩
      exact below_dN ((Below.refl _ _).alloc (Nat.le_refl _) _)
    have p2i : ¬ (191 < (b1 : Int)) := by omega
    by_cases p3 : b2 < 128
    · have p3i : (b2 : Int) < 128 := by omega
      have n0 := (N8.out 144 191).1
      have n1 := (N8.out 144 191).2
      have d0 := O8.out 144 191 _ _ c0
      have d1 := O8.out 144 191 _ _ c1
      have d2 := O8.out 144 191 _ _ c2
      go_enter Tryd.func28, Tryd.ntmps28
      go_wp2
      go_quiet (fail)
      go_wp2
      go_ret
      refine ⟨r_bool (by simp; omega), ?_⟩
      exact below_dN ((Below.refl _ _).alloc (Nat.le_refl _) _)
    have p3i : ¬ ((b2 : Int) < 128) := by omega
    by_cases p4 : 191 < b2
    · have p4i : 191 < (b2 : Int) := by omega
      have n0 := (N8.out 144 191).1
      have n1 := (N8.out 144 191).2
      have d0 := O8.out 144 191 _ _ c0
      have d1 := O8.out 144 191 _ _ c1
      have d2 := O8.out 144 191 _ _ c2
      go_enter Tryd.func28, Tryd.ntmps28
      go_wp2
      go_quiet (fail)
      go_wp2
      go_ret
      refine ⟨r_bool (by simp; omega), ?_⟩
      exact below_dN ((Below.refl _ _).alloc (Nat.le_refl _) _)
    have p4i : ¬ (191 < (b2 : Int)) := by omega
    have n0 := (N8.out 144 191).1
    have n1 := (N8.out 144 191).2
    have d0 := O8.out 144 191 _ _ c0
    have d1 := O8.out 144 191 _ _ c1
    have d2 := O8.out 144 191 _ _ c2
    go_enter Tryd.func28, Tryd.ntmps28
    go_wp2
    go_quiet (fail)
    go_wp2
    go_ret
    refine ⟨r_bool (by simp; omega), ?_⟩
    exact below_dN ((Below.refl _ _).alloc (Nat.le_refl _) _)
  · rw [e] at t0
    simp only [U.frt, e2, e3, e4]
    clear e e2
    by_cases p1 : b1 < 128
    · have p1i : (b1 : Int) < 128 := by omega
      have n0 := (N8.out 128 191).1
      have n1 := (N8.out 128 191).2
      have d0 := O8.out 128 191 _ _ c0
      have d1 := O8.out 128 191 _ _ c1
      have d2 := O8.out 128 191 _ _ c2
      go_enter Tryd.func28, Tryd.ntmps28
      go_wp2
      go_quiet (fail)
      go_wp2
      go_ret
      refine ⟨r_bool (by simp; omega), ?_⟩
      exact below_dN ((Below.refl _ _).alloc (Nat.le_refl _) _)
    have p1i : ¬ ((b1 : Int) < 128) := by omega
    by_cases p2 : 191 < b1
    · have p2i : 191 < (b1 : Int) := by omega
      have n0 := (N8.out 128 191).1
      have n1 := (N8.out 128 191).2
      have d0 := O8.out 128 191 _ _ c0
      have d1 := O8.out 128 191 _ _ c1
      have d2 := O8.out 128 191 _ _ c2
      go_enter Tryd.func28, Tryd.ntmps28
      go_wp2
      go_quiet (fail)
      go_wp2
      go_ret
      refine ⟨r_bool (by simp; omega), ?_⟩
      exact below_dN ((Below.refl _ _).alloc (Nat.le_refl _) _)
    have p2i : ¬ (191 < (b1 : Int)) := by omega
    by_cases p3 : b2 < 128
    · have p3i : (b2 : Int) < 128 := by omega
      have n0 := (N8.out 128 191).1
      have n1 := (N8.out 128 191).2
      have d0 := O8.out 128 191 _ _ c0
      have d1 := O8.out 128 191 _ _ c1
      have d2 := O8.out 128 191 _ _ c2
      go_enter Tryd.func28, Tryd.ntmps28
      go_wp2
      go_quiet (fail)
      go_wp2
      go_ret
      refine ⟨r_bool (by simp; omega), ?_⟩
      exact below_dN ((Below.refl _ _).alloc (Nat.le_refl _) _)
    have p3i : ¬ ((b2 : Int) < 128) := by omega
    by_cases p4 : 191 < b2
    · have p4i : 191 < (b2 : Int) := by omega
      have n0 := (N8.out 128 191).1
      have n1 := (N8.out 128 191).2
      have d0 := O8.out 128 191 _ _ c0
      have d1 := O8.out 128 191 _ _ c1
      have d2 := O8.out 128 191 _ _ c2
      go_enter Tryd.func28, Tryd.ntmps28
      go_wp2
      go_quiet (fail)
      go_wp2
      go_ret
      refine ⟨r_bool (by simp; omega), ?_⟩
      exact below_dN ((Below.refl _ _).alloc (Nat.le_refl _) _)
    have p4i : ¬ (191 < (b2 : Int)) := by omega
    have n0 := (N8.out 128 191).1
    have n1 := (N8.out 128 191).2
    have d0 := O8.out 128 191 _ _ c0
    have d1 := O8.out 128 191 _ _ c1
    have d2 := O8.out 128 191 _ _ c2
    go_enter Tryd.func28, Tryd.ntmps28
    go_wp2
    go_quiet (fail)
    go_wp2
    go_ret
    refine ⟨r_bool (by simp; omega), ?_⟩
    exact below_dN ((Below.refl _ _).alloc (Nat.le_refl _) _)
  · rw [e] at t0
    simp only [U.frt, e2, e3, e4]
    clear e e2
    by_cases p1 : b1 < 128
    · have p1i : (b1 : Int) < 128 := by omega
      have n0 := (N8.out 128 143).1
      have n1 := (N8.out 128 143).2
      have d0 := O8.out 128 143 _ _ c0
      have d1 := O8.out 128 143 _ _ c1
      have d2 := O8.out 128 143 _ _ c2
      go_enter Tryd.func28, Tryd.ntmps28
      go_wp2
      go_quiet (fail)
      go_wp2
      go_ret
      refine ⟨r_bool (by simp; omega), ?_⟩
      exact below_dN ((Below.refl _ _).alloc (Nat.le_refl _) _)
    have p1i : ¬ ((b1 : Int) < 128) := by omega
    by_cases p2 : 143 < b1
    · have p2i : 143 < (b1 : Int) := by omega
      have n0 := (N8.out 128 143).1
      have n1 := (N8.out 128 143).2
      have d0 := O8.out 128 143 _ _ c0
      have d1 := O8.out 128 143 _ _ c1
      have d2 := O8.out 128 143 _ _ c2
      go_enter Tryd.func28, Tryd.ntmps28
      go_wp2
      go_quiet (fail)
      go_wp2
      go_ret
      refine ⟨r_bool (by simp; omega), ?_⟩
      exact below_dN ((Below.refl _ _).alloc (Nat.le_refl _) _)
    have p2i : ¬ (143 < (b1 : Int)) := by omega
    by_cases p3 : b2 < 128
    · have p3i : (b2 : Int) < 128 := by omega
      have n0 := (N8.out 128 143).1
      have n1 := (N8.out 128 143).2
      have d0 := O8.out 128 143 _ _ c0
      have d1 := O8.out 128 143 _ _ c1
      have d2 := O8.out 128 143 _ _ c2
      go_enter Tryd.func28, Tryd.ntmps28
      go_wp2
      go_quiet (fail)
      go_wp2
      go_ret
      refine ⟨r_bool (by simp; omega), ?_⟩
      exact below_dN ((Below.refl _ _).alloc (Nat.le_refl _) _)
    have p3i : ¬ ((b2 : Int) < 128) := by omega
    by_cases p4 : 191 < b2
    · have p4i : 191 < (b2 : Int) := by omega
      have n0 := (N8.out 128 143).1
      have n1 := (N8.out 128 143).2
      have d0 := O8.out 128 143 _ _ c0
      have d1 := O8.out 128 143 _ _ c1
      have d2 := O8.out 128 143 _ _ c2
      go_enter Tryd.func28, Tryd.ntmps28
      go_wp2
      go_quiet (fail)
      go_wp2
      go_ret
      refine ⟨r_bool (by simp; omega), ?_⟩
      exact below_dN ((Below.refl _ _).alloc (Nat.le_refl _) _)
    have p4i : ¬ (191 < (b2 : Int)) := by omega
    have n0 := (N8.out 128 143).1
    have n1 := (N8.out 128 143).2
    have d0 := O8.out 128 143 _ _ c0
    have d1 := O8.out 128 143 _ _ c1
    have d2 := O8.out 128 143 _ _ c2
    go_enter Tryd.func28, Tryd.ntmps28
    go_wp2
    go_quiet (fail)
    go_wp2
    go_ret
    refine ⟨r_bool (by simp; omega), ?_⟩
    exact below_dN ((Below.refl _ _).alloc (Nat.le_refl _) _)

end Go.Proofs.YtokbmihjpllgpaaDoor
