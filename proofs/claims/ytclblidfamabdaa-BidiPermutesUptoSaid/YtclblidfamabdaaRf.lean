/- A range over a function, for iterators that keep state of their own in cells: one law for the caller, one form of contract for the iterator. -/
import Derived.RangeFuncNested
import Derived.RangeFuncLeaves
import Derived.Below
import Derived.Deep.Draws
set_option linter.unusedVariables false
namespace Go.Proofs.Ytclblidfamabdaa
open Go.RowKit

/-- Blocks of S that were there lie as they lay; no block has gone; the streams are as they were. -/
structure Fr (S : Nat → Prop) (A B : World) : Prop where
  os : B.os = A.os
  tape : B.tape = A.tape
  output : B.output = A.output
  size : A.heap.size ≤ B.heap.size
  block : ∀ k, k < A.heap.size → S k → B.heap[k]? = A.heap[k]?

theorem Fr.refl (S : Nat → Prop) (A : World) : Fr S A A := ⟨rfl, rfl, rfl, Nat.le_refl _, fun _ _ _ => rfl⟩
theorem Fr.trans {S : Nat → Prop} {A B C : World} (h : Fr S A B) (k : Fr S B C) : Fr S A C :=
  ⟨k.os.trans h.os, k.tape.trans h.tape, k.output.trans h.output, Nat.le_trans h.size k.size, fun i hi hs => (k.block i (Nat.lt_of_lt_of_le hi h.size) hs).trans (h.block i hi hs)⟩
theorem Fr.mono {S T : Nat → Prop} {A B : World} (h : Fr S A B) (ht : ∀ k, k < A.heap.size → T k → S k) : Fr T A B := ⟨h.os, h.tape, h.output, h.size, fun k hk hs => h.block k hk (ht k hk hs)⟩
theorem Fr.alloc {S : Nat → Prop} {A B : World} (h : Fr S A B) (o : Obj) : Fr S A (B.alloc o) :=
  h.trans ⟨rfl, rfl, rfl, by simp, fun k hk _ => Below.heap_alloc _ _ _ hk⟩
theorem Fr.setCell {S : Nat → Prop} {A B : World} (h : Fr S A B) (a : Addr) (v : Value) (hn : a.block < A.heap.size → ¬ S a.block) : Fr S A (B.setCell a v) :=
  ⟨h.os, h.tape, h.output, by simpa [World.setCell] using h.size, fun k hk hs => by
    rw [Below.heap_setCell _ _ _ _ (fun e => by subst e; exact hn hk hs)]; exact h.block k hk hs⟩
theorem Fr.drew {S : Nat → Prop} {A B : World} (h : Fr S A B) : Fr S A B.drew := ⟨h.os, h.tape, h.output, h.size, h.block⟩
theorem Fr.drewN {S : Nat → Prop} {A B : World} (h : Fr S A B) (n : Nat) : Fr S A (B.drewN n) := ⟨h.os, h.tape, h.output, h.size, h.block⟩
theorem Fr.putObj {S : Nat → Prop} {A B : World} (h : Fr S A B) (r : Nat) (o : Obj) (hn : r < A.heap.size → ¬ S r) : Fr S A (B.putObj r o) :=
  ⟨h.os, h.tape, h.output, by simpa using h.size, fun k hk hs => by
    rw [World.putObj_heap_other (fun e => by subst e; exact hn hk hs)]; exact h.block k hk hs⟩
theorem Fr.grown {S : Nat → Prop} {A B C : World} {row : Option Nat} (h : Fr S A B) (hg : B.grownBy C row) (hn : ∀ r, row = some r → r < A.heap.size → ¬ S r) : Fr S A C :=
  ⟨hg.os.trans h.os, hg.tape.trans h.tape, hg.output.trans h.output, Nat.le_trans h.size hg.size, fun k hk hs =>
    (hg.block k (Nat.lt_of_lt_of_le hk h.size) (fun e => hn k e.symm hk hs)).trans (h.block k hk hs)⟩
theorem Fr.below {S : Nat → Prop} {A B C : World} {n : Nat} (h : Fr S A B) (hb : Below n B C) (hn : ∀ k, k < A.heap.size → S k → k < n) : Fr S A C :=
  ⟨hb.os.trans h.os, hb.tape.trans h.tape, hb.output.trans h.output, Nat.le_trans h.size hb.size, fun k hk hs => (hb.block k (hn k hk hs)).trans (h.block k hk hs)⟩
theorem Fr.of_below {S : Nat → Prop} {A B : World} {n : Nat} (hb : Below n A B) (hn : ∀ k, k < A.heap.size → S k → k < n) : Fr S A B := (Fr.refl S A).below hb hn
theorem Fr.toBelow {S : Nat → Prop} {A B : World} {n : Nat} (h : Fr S A B) (hn : ∀ k, k < n → S k) (hs : n ≤ A.heap.size) : Below n A B :=
  ⟨h.os, h.tape, h.output, h.size, fun k hk => h.block k (Nat.lt_of_lt_of_le hk hs) (hn k hk)⟩
theorem Fr.cell {S : Nat → Prop} {A B : World} (h : Fr S A B) {a : Addr} {v : Value} (hc : A.cell? a = some v) (hs : S a.block) : B.cell? a = some v :=
  (World.cell?_of_block (h.block a.block (World.block_lt_of_cell? A a hc) hs)).trans hc

/-- THE CONTRACT OF AN ITERATOR'S VALUE: called at the yield of whatever loop it hands on xs one by one, as far as the rounds say 'go on'. Its own m blocks are laid first of all; of the caller it asks that a round that goes on leaves these, and the blocks C (what it has captured), as they are. -/
def SeqC {α : Type} (P : Program) (g : FuncId) (lb : Array Value) (encs : α → Array Value) (xs : List α) (m : Nat) (C : Nat → Prop) (w : World) : Prop :=
  ∀ (l : Nat) (J Jx : List α → World → Prop) (W : World), Fr C w W → w.heap.size ≤ W.heap.size →
    (∀ pre A B, Fr (fun k => k < W.heap.size ∨ W.heap.size + m ≤ k) A B → J pre A → J pre B) →
    (∀ pre A B, Fr (fun k => k < W.heap.size ∨ W.heap.size + m ≤ k) A B → Jx pre A → Jx pre B) →
    (∀ pre x post W1, xs = pre ++ x :: post → W.heap.size + m ≤ W1.heap.size → J pre W1 → YieldAt Fence.wide 0 P l (encs x) W1 fun e W' =>
      (e = .returned (.bool true) ∧ J (pre ++ [x]) W' ∧ Fr (fun k => C k ∨ (W.heap.size ≤ k ∧ k < W.heap.size + m)) W1 W') ∨ (e = .returned (.bool false) ∧ Jx (pre ++ [x]) W')) →
    J [] W →
    Calls P g (#[.func (.yield l) #[] #[]] ++ lb) W fun e W' => (∃ v, e = .returned v) ∧ (J xs W' ∨ ∃ pre, pre <+: xs ∧ pre ≠ [] ∧ Jx pre W')

/-- It stands in every later world. -/
theorem SeqC.later {α : Type} {P : Program} {g : FuncId} {lb : Array Value} {encs : α → Array Value} {xs : List α} {m : Nat} {C : Nat → Prop} {w w' : World}
    (h : SeqC P g lb encs xs m C w) (hC : ∀ k, C k → k < w.heap.size) (hf : Fr C w w') : SeqC P g lb encs xs m C w' :=
  fun l J Jx W hW hs hJ hJx hY h0 => h l J Jx W (hf.trans hW) (Nat.le_trans hf.size hs) hJ hJx hY h0

/-- HOW THE BODY OF A ROUND MAY BE LEFT. -/
def roundEnd {α : Type} (S : Nat → Prop) (I : List α → World → Prop) (Ix : Code → List α → World → Prop) (xs : List α) (W : World) : Exit → Act → World → Prop
  | .normal, _, W' => Fr S W W' ∧ I xs W'
  | .ret, _, W' => Fr S W W' ∧ Ix .ret xs W'
  | .exit id, _, W' => Fr S W W' ∧ Ix (.exit id) xs W'
  | .goto t, _, W' => Fr S W W' ∧ Ix (.goto t) xs W'
  | .panic _, _, _ => False
  | .outgrown, _, _ => False

section
variable {P : Program} {α : Type}

/-- The core: the record lies at l in W1; the iterator is called. -/
theorem rf_core {F : Fence} {fn : FuncId} {tmps : Array Value} {ps : Array Tmp} {assign body : Code} {db l : Nat} {Q : Exit → Act → World → Prop} {a' : Act} {W1 w0 : World}
    (rec : LoopState → Option Code → Loop) (hrec : rec = fun st pe => { state := st, pending := pe, fn, tmps, params := ps, assign, body, defers := db })
    (hl1 : W1.heap[l]? = some (.loop (rec .ready none)))
    {gf : Nat} {lb : Array Value} {encs : α → Array Value} {xs : List α} {m : Nat} {C : Nat → Prop} (hseq : SeqC P gf lb encs xs m C w0) (hC0 : Fr C w0 W1) (hCl : ¬ C l) (hps : ∀ x, (encs x).size = ps.size)
    (I : List α → World → Prop) (Ix : Code → List α → World → Prop)
    (hI : ∀ pre A B, Fr (fun k => k ≠ l ∧ (k < W1.heap.size ∨ W1.heap.size + m ≤ k)) A B → I pre A → I pre B)
    (hIx : ∀ c pre A B, Fr (fun k => k ≠ l ∧ (k < W1.heap.size ∨ W1.heap.size + m ≤ k)) A B → Ix c pre A → Ix c pre B) (h0 : I [] W1)
    (S : Nat → Prop) (hS : ∀ k, C k ∨ k = l ∨ (W1.heap.size ≤ k ∧ k < W1.heap.size + m) → S k)
    (hround : ∀ pre x post W, xs = pre ++ x :: post → W1.heap.size + m ≤ W.heap.size → I pre W →
      assign.wpIn (Fence.wide.inRound l) 0 P (Exit.then (fun a2 W2 => Fr S W W2 ∧ ∀ W3, Fr (fun k => k ≠ l) W2 W3 → W3.heap.size = W2.heap.size → (∃ r, W3.heap[l]? = some (.loop r)) →
        body.wpIn (Fence.wide.inRound l) 0 P (roundEnd S I Ix (pre ++ [x]) W3) a2 W3) (fun _ _ _ => False)) { tmps := (ps.zip (encs x)).foldl (fun t (p, v) => t.setIfInBounds p v) tmps, defers := [] } W)
    (hdone : ∀ W, I xs W → Q .normal a' W)
    (hstop : ∀ c pre W, pre <+: xs → pre ≠ [] → Ix c pre W → c.wpIn F 0 P Q a' W) :
    CallsIn Fence.wide 0 P gf (#[.func (.yield l) #[] #[]] ++ lb) W1 (rangePost F 0 P l Q a') := by
  have hlt : l < W1.heap.size := (Array.getElem?_eq_some_iff.1 hl1).1
  refine callsIn_wide.2 ((hseq l (fun pre W => I pre W ∧ W.heap[l]? = some (.loop (rec .ready none))) (fun pre W => ∃ c, Ix c pre W ∧ W.heap[l]? = some (.loop (rec .done (some c)))) W1 hC0 hC0.size ?_ ?_ ?_ ⟨h0, hl1⟩).mono ?_)
  · rintro pre A B hf ⟨hi, hl⟩
    exact ⟨hI pre A B (hf.mono fun k _ h => h.2) hi, (hf.block l (Array.getElem?_eq_some_iff.1 hl).1 (.inl hlt)).trans hl⟩
  · rintro pre A B hf ⟨c, hi, hl⟩
    exact ⟨c, hIx c pre A B (hf.mono fun k _ h => h.2) hi, (hf.block l (Array.getElem?_eq_some_iff.1 hl).1 (.inl hlt)).trans hl⟩
  · rintro pre x post W hx hm ⟨hi, hl⟩
    have hy := run_yield (P := P) (args := encs x) hl (by rw [hrec]; exact hps x)
    rw [hrec] at hy
    refine ⟨fn, _, assign, body, hy, roundIn_of_wpIn trivial (wpIn_mono (hround pre x post W hx hm hi) ?_)⟩
    rintro e1 a2 Wa hq1
    cases e1 <;> try exact False.elim hq1
    obtain ⟨hfa, hbody⟩ := hq1
    have hla : Wa.heap[l]? = some (.loop (rec .ready none)) := (hfa.block l (Array.getElem?_eq_some_iff.1 hl).1 (hS l (.inr (.inl rfl)))).trans hl
    refine ⟨_, run_beginRound hla (by rw [hrec]), ?_⟩
    have hlta := (Array.getElem?_eq_some_iff.1 hla).1
    have hl2 : (Wa.putObj l (.loop { rec .ready none with state := .busy })).heap[l]? = some (.loop { rec .ready none with state := .busy }) := World.putObj_heap_same hlta
    have hf2 : ∀ {T : Nat → Prop}, (∀ k, T k → k ≠ l) → Fr T Wa (Wa.putObj l (.loop { rec .ready none with state := .busy })) := fun hT => (Fr.refl _ _).putObj _ _ (fun _ h => hT _ h rfl)
    refine wpIn_mono (hbody _ (hf2 fun k h => h) (by simp) ⟨_, hl2⟩) ?_
    have fin : ∀ (jump : Option Code) (W3 : World), Fr S (Wa.putObj l (.loop { rec .ready none with state := .busy })) W3 →
        (Instr.endRound l jump).run P W3 = .ok (.bool jump.isNone) (W3.putObj l (.loop (rec (if jump.isNone then .ready else .done) jump))) ∧
        (W3.putObj l (.loop (rec (if jump.isNone then .ready else .done) jump))).heap[l]? = some (.loop (rec (if jump.isNone then .ready else .done) jump)) := fun jump W3 hk3 => by
      have hl3 := (hk3.block l (by simp; exact hlta) (hS l (.inr (.inl rfl)))).trans hl2
      have := run_endRound (P := P) jump hl3
      rw [hrec] at this ⊢
      exact ⟨this, World.putObj_heap_same (Array.getElem?_eq_some_iff.1 hl3).1⟩
    have keep : ∀ (W3 : World) (o : Obj), Fr S (Wa.putObj l (.loop { rec .ready none with state := .busy })) W3 → Fr (fun k => C k ∨ (W1.heap.size ≤ k ∧ k < W1.heap.size + m)) W (W3.putObj l o) := fun W3 o h3 => by
      have hne : ∀ k, C k ∨ (W1.heap.size ≤ k ∧ k < W1.heap.size + m) → k ≠ l := fun k h e => by subst e; rcases h with h | h; exact hCl h; omega
      have h4 := ((hfa.mono fun k _ h => hS k (h.elim .inl (fun h => .inr (.inr h)))).trans (hf2 hne)).trans (h3.mono fun k _ h => hS k (h.elim .inl (fun h => .inr (.inr h))))
      exact h4.putObj _ _ (fun _ h => hne _ h rfl)
    have hi4 : ∀ (W3 : World) (o : Obj), Fr (fun k => k ≠ l ∧ (k < W1.heap.size ∨ W1.heap.size + m ≤ k)) W3 (W3.putObj l o) := fun W3 o => (Fr.refl _ _).putObj _ _ (fun _ h => h.1 rfl)
    rintro e a3 W3 hp
    cases e with
    | normal =>
      obtain ⟨hk3, hi3⟩ := hp
      obtain ⟨hr, hl4⟩ := fin none W3 hk3
      exact ⟨_, _, hr, .inl ⟨rfl, ⟨hI _ _ _ (hi4 _ _) hi3, hl4⟩, keep _ _ hk3⟩⟩
    | ret =>
      obtain ⟨hk3, hi3⟩ := hp
      obtain ⟨hr, hl4⟩ := fin (some .ret) W3 hk3
      exact ⟨_, _, hr, .inr ⟨rfl, .ret, hIx _ _ _ _ (hi4 _ _) hi3, hl4⟩⟩
    | exit id =>
      obtain ⟨hk3, hi3⟩ := hp
      obtain ⟨hr, hl4⟩ := fin (some (.exit id)) W3 hk3
      exact ⟨_, _, hr, .inr ⟨rfl, .exit id, hIx _ _ _ _ (hi4 _ _) hi3, hl4⟩⟩
    | goto t =>
      obtain ⟨hk3, hi3⟩ := hp
      obtain ⟨hr, hl4⟩ := fin (some (.goto t)) W3 hk3
      exact ⟨_, _, hr, .inr ⟨rfl, .goto t, hIx _ _ _ _ (hi4 _ _) hi3, hl4⟩⟩
    | panic ch => exact hp.elim
    | outgrown => exact hp.elim
  · rintro e W2 ⟨⟨v, rfl⟩, (⟨hi, hl⟩ | ⟨pre, hpre, hne, c, hi, hl⟩)⟩
    · exact ⟨none, _, by have := run_endLoop (P := P) hl (by rw [hrec]; simp); rw [hrec] at this; exact this, hdone _ (hI _ _ _ ((Fr.refl _ _).putObj _ _ (fun _ h => h.1 rfl)) hi)⟩
    · exact ⟨some c, _, by have := run_endLoop (P := P) hl (by rw [hrec]; simp); rw [hrec] at this; exact this, hstop c pre _ hpre hne (hIx _ _ _ _ ((Fr.refl _ _).putObj _ _ (fun _ h => h.1 rfl)) hi)⟩

/-- THE STATEMENT 'for .. := range g', outside of any other such loop. Its own two blocks, and the iterator's m, are w.heap.size .. w.heap.size + 2 + m - 1. -/
theorem wp_rf {g : Operand} {ps : Array Tmp} {assign body : Code} {Q : Exit → Act → World → Prop} {a : Act} {w : World} (w0 : World)
    {gf : Nat} {lb : Array Value} (hg : a.eval g = .func (.func gf) #[] lb) (eg : ∀ args w, (callFunc gf args).run P w = .ok (.enter gf args) w)
    {encs : α → Array Value} {xs : List α} {m : Nat} {C : Nat → Prop} (hseq : SeqC P gf lb encs xs m C w0) (hC0 : Fr C w0 w) (hCw : ∀ k, C k → k < w.heap.size) (hps : ∀ x, (encs x).size = ps.size)
    (I : List α → World → Prop) (Ix : Code → List α → World → Prop)
    (hI : ∀ pre A B, Fr (fun k => k < w.heap.size ∨ w.heap.size + 2 + m ≤ k) A B → I pre A → I pre B)
    (hIx : ∀ c pre A B, Fr (fun k => k < w.heap.size ∨ w.heap.size + 2 + m ≤ k) A B → Ix c pre A → Ix c pre B) (h0 : I [] w)
    (hround : ∀ pre x post W, xs = pre ++ x :: post → w.heap.size + 2 + m ≤ W.heap.size → I pre W →
      assign.wpIn (Fence.wide.inRound (w.heap.size + 1)) 0 P (Exit.then (fun a2 W2 => Fr (fun k => C k ∨ (w.heap.size ≤ k ∧ k < w.heap.size + 2 + m)) W W2 ∧
        ∀ W3, Fr (fun k => k ≠ w.heap.size + 1) W2 W3 → W3.heap.size = W2.heap.size → (∃ r, W3.heap[w.heap.size + 1]? = some (.loop r)) →
        body.wpIn (Fence.wide.inRound (w.heap.size + 1)) 0 P (roundEnd (fun k => C k ∨ (w.heap.size ≤ k ∧ k < w.heap.size + 2 + m)) I Ix (pre ++ [x]) W3) a2 W3) (fun _ _ _ => False))
        { tmps := (ps.zip (encs x)).foldl (fun t (p, v) => t.setIfInBounds p v) a.tmps, defers := [] } W)
    (hdone : ∀ W, I xs W → W.heap[w.heap.size]? = some (.deferred (some [])) → Q .normal { a with defers := { target := .collected w.heap.size, args := #[] } :: a.defers } W)
    (hstop : ∀ c pre W, pre <+: xs → pre ≠ [] → Ix c pre W → W.heap[w.heap.size]? = some (.deferred (some [])) →
      c.wp P Q { a with defers := { target := .collected w.heap.size, args := #[] } :: a.defers } W) :
    (Code.rangeFunc g ps assign body).wp P Q a w := by
  refine (wpIn_wide (n := 0)).1 (wpIn_rangeFunc fun fn hfn => ?_)
  rw [show Fence.wide.round = none from rfl]
  obtain ⟨rec, hrec⟩ : ∃ rec : LoopState → Option Code → Loop, rec = fun st pe => { state := st, pending := pe, fn, tmps := a.tmps, params := ps, assign, body, defers := w.heap.size } := ⟨_, rfl⟩
  obtain ⟨W1, hW1⟩ : ∃ W1, (w.alloc (.deferred (some []))).alloc (.loop (rec .ready none)) = W1 := ⟨_, rfl⟩
  have hz : W1.heap.size = w.heap.size + 2 := by rw [← hW1]; simp
  have hL1 : W1.heap[w.heap.size + 1]? = some (.loop (rec .ready none)) := by
    rw [← hW1]; have := World.alloc_heap_new (w.alloc (.deferred (some []))) (.loop (rec .ready none)); rwa [World.size_alloc] at this
  have hK1 : W1.heap[w.heap.size]? = some (.deferred (some [])) := by
    rw [← hW1]; exact (Below.heap_alloc _ _ _ (by simp)).trans (World.alloc_heap_new w _)
  have hw1 : ∀ S, Fr S w W1 := fun S => by rw [← hW1]; exact ((Fr.refl _ _).alloc _).alloc _
  refine ⟨w.heap.size + 1, [{ target := .collected w.heap.size, args := #[] }], W1, { target := .fn (.func gf) lb, args := #[.func (.yield (w.heap.size + 1)) #[] #[]] }, W1, gf,
    #[.func (.yield (w.heap.size + 1)) #[] #[]] ++ lb, W1, ?_, ?_, fun _ _ => trivial, ?_, fun h => (by simp [Fence.wide] at h), ?_⟩
  · rw [← hW1, hrec]; exact run_enterLoop_outer _ _ _ _ _
  · simp only [resolve, hg]
    simp [go_sem]
  · simp [invoke, go_sem, eg]
  · have hsub : ∀ k, k < w.heap.size ∨ w.heap.size + 2 + m ≤ k → k ≠ w.heap.size + 1 ∧ (k < W1.heap.size ∨ W1.heap.size + m ≤ k) := fun k h => by rw [hz]; omega
    refine rf_core rec hrec hL1 hseq (hC0.trans (hw1 _)) (fun h => by have := hCw _ h; omega) hps
      (fun pre W => I pre W ∧ W.heap[w.heap.size]? = some (.deferred (some []))) (fun c pre W => Ix c pre W ∧ W.heap[w.heap.size]? = some (.deferred (some []))) ?_ ?_ ⟨hI _ _ _ (hw1 _) h0, hK1⟩
      (fun k => C k ∨ (w.heap.size ≤ k ∧ k < w.heap.size + 2 + m)) ?_ ?_ ?_ ?_
    · rintro pre A B hf ⟨hi, hk⟩
      exact ⟨hI _ _ _ (hf.mono fun k _ h => hsub k h) hi, (hf.block _ (Array.getElem?_eq_some_iff.1 hk).1 ⟨by omega, .inl (by omega)⟩).trans hk⟩
    · rintro c pre A B hf ⟨hi, hk⟩
      exact ⟨hIx _ _ _ _ (hf.mono fun k _ h => hsub k h) hi, (hf.block _ (Array.getElem?_eq_some_iff.1 hk).1 ⟨by omega, .inl (by omega)⟩).trans hk⟩
    · intro k h
      rw [hz] at h
      rcases h with h | h | h
      · exact .inl h
      · exact .inr (by omega)
      · exact .inr (by omega)
    · rintro pre x post W hx hm ⟨hi, hk⟩
      refine wpIn_mono (hround pre x post W hx (by omega) hi) ?_
      rintro e1 a2 W2 hq
      cases e1 <;> try exact False.elim hq
      obtain ⟨hf2, hb⟩ := hq
      refine ⟨hf2, fun W3 hf3 hs3 hr3 => ?_⟩
      have hk2 := (hf2.block _ (Array.getElem?_eq_some_iff.1 hk).1 (.inr (by omega))).trans hk
      have hk3 : W3.heap[w.heap.size]? = some (.deferred (some [])) := (hf3.block w.heap.size (Array.getElem?_eq_some_iff.1 hk2).1 (by omega)).trans hk2
      refine wpIn_mono (hb W3 hf3 hs3 hr3) ?_
      have hk' : ∀ W4, Fr (fun k => C k ∨ (w.heap.size ≤ k ∧ k < w.heap.size + 2 + m)) W3 W4 → W4.heap[w.heap.size]? = some (.deferred (some [])) := fun W4 hf => (hf.block _ (Array.getElem?_eq_some_iff.1 hk3).1 (.inr (by omega))).trans hk3
      rintro e a3 W3 hp
      cases e with
      | normal => exact ⟨hp.1, hp.2, hk' _ hp.1⟩
      | ret => exact ⟨hp.1, hp.2, hk' _ hp.1⟩
      | exit id => exact ⟨hp.1, hp.2, hk' _ hp.1⟩
      | goto t => exact ⟨hp.1, hp.2, hk' _ hp.1⟩
      | panic ch => exact hp.elim
      | outgrown => exact hp.elim
    · exact fun W h => hdone W h.1 h.2
    · exact fun c pre W hp hn h => wpIn_wide.2 (hstop c pre W hp hn h.1 h.2)

/-- The same within a round of loop l₀ (its record lies in w): one block of its own. -/
theorem wp_rf_in {g : Operand} {ps : Array Tmp} {assign body : Code} {Q : Exit → Act → World → Prop} {a : Act} {w : World} (w0 : World) {l₀ : Nat} (hl0 : ∃ r, w.heap[l₀]? = some (.loop r))
    {gf : Nat} {lb : Array Value} (hg : a.eval g = .func (.func gf) #[] lb) (eg : ∀ args w, (callFunc gf args).run P w = .ok (.enter gf args) w)
    {encs : α → Array Value} {xs : List α} {m : Nat} {C : Nat → Prop} (hseq : SeqC P gf lb encs xs m C w0) (hC0 : Fr C w0 w) (hCw : ∀ k, C k → k < w.heap.size) (hps : ∀ x, (encs x).size = ps.size)
    (I : List α → World → Prop) (Ix : Code → List α → World → Prop)
    (hI : ∀ pre A B, Fr (fun k => k < w.heap.size ∨ w.heap.size + 1 + m ≤ k) A B → I pre A → I pre B)
    (hIx : ∀ c pre A B, Fr (fun k => k < w.heap.size ∨ w.heap.size + 1 + m ≤ k) A B → Ix c pre A → Ix c pre B) (h0 : I [] w)
    (hround : ∀ pre x post W, xs = pre ++ x :: post → w.heap.size + 1 + m ≤ W.heap.size → I pre W →
      assign.wpIn (Fence.wide.inRound w.heap.size) 0 P (Exit.then (fun a2 W2 => Fr (fun k => C k ∨ (w.heap.size ≤ k ∧ k < w.heap.size + 1 + m)) W W2 ∧
        ∀ W3, Fr (fun k => k ≠ w.heap.size) W2 W3 → W3.heap.size = W2.heap.size → (∃ r, W3.heap[w.heap.size]? = some (.loop r)) →
        body.wpIn (Fence.wide.inRound w.heap.size) 0 P (roundEnd (fun k => C k ∨ (w.heap.size ≤ k ∧ k < w.heap.size + 1 + m)) I Ix (pre ++ [x]) W3) a2 W3) (fun _ _ _ => False))
        { tmps := (ps.zip (encs x)).foldl (fun t (p, v) => t.setIfInBounds p v) a.tmps, defers := [] } W)
    (hdone : ∀ W, I xs W → Q .normal a W)
    (hstop : ∀ c pre W, pre <+: xs → pre ≠ [] → Ix c pre W → c.wpIn (Fence.wide.inRound l₀) 0 P Q a W) :
    (Code.rangeFunc g ps assign body).wpIn (Fence.wide.inRound l₀) 0 P Q a w := by
  obtain ⟨r0, hl0⟩ := hl0
  refine wpIn_rangeFunc fun fn hfn => ?_
  rw [show (Fence.wide.inRound l₀).round = some l₀ from rfl]
  obtain ⟨rec, hrec⟩ : ∃ rec : LoopState → Option Code → Loop, rec = fun st pe => { state := st, pending := pe, fn, tmps := a.tmps, params := ps, assign, body, defers := r0.defers } := ⟨_, rfl⟩
  obtain ⟨W1, hW1⟩ : ∃ W1, w.alloc (.loop (rec .ready none)) = W1 := ⟨_, rfl⟩
  have hz : W1.heap.size = w.heap.size + 1 := by rw [← hW1]; simp
  have hL1 : W1.heap[w.heap.size]? = some (.loop (rec .ready none)) := by rw [← hW1]; exact World.alloc_heap_new w _
  have hw1 : ∀ S, Fr S w W1 := fun S => by rw [← hW1]; exact (Fr.refl _ _).alloc _
  refine ⟨w.heap.size, [], W1, { target := .fn (.func gf) lb, args := #[.func (.yield w.heap.size) #[] #[]] }, W1, gf,
    #[.func (.yield w.heap.size) #[] #[]] ++ lb, W1, ?_, ?_, fun _ _ => trivial, ?_, fun h => (by simp [Fence.wide] at h), ?_⟩
  · rw [← hW1, hrec]; exact run_enterLoop_inner hl0 _ _ _ _ _
  · simp only [resolve, hg]
    simp [go_sem]
  · simp [invoke, go_sem, eg]
  · have hsub : ∀ k, k < w.heap.size ∨ w.heap.size + 1 + m ≤ k → k ≠ w.heap.size ∧ (k < W1.heap.size ∨ W1.heap.size + m ≤ k) := fun k h => by rw [hz]; omega
    exact rf_core (F := Fence.wide.inRound l₀) rec hrec hL1 hseq (hC0.trans (hw1 _)) (fun h => by have := hCw _ h; omega) hps I Ix
      (fun pre A B hf hi => hI _ _ _ (hf.mono fun k _ h => hsub k h) hi) (fun c pre A B hf hi => hIx _ _ _ _ (hf.mono fun k _ h => hsub k h) hi) (hI _ _ _ (hw1 _) h0)
      (fun k => C k ∨ (w.heap.size ≤ k ∧ k < w.heap.size + 1 + m))
      (fun k h => by rw [hz] at h; rcases h with h | h | h; exact .inl h; exact .inr (by omega); exact .inr (by omega))
      (fun pre x post W hx hm hi => hround pre x post W hx (by omega) hi) hdone hstop
end
end Go.Proofs.Ytclblidfamabdaa
