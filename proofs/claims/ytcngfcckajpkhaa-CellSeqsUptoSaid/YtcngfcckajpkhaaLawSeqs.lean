/- The law of sequences: gone over again, left early, within itself. -/
import Derived.Test.YtcngfcckajpkhaaLawCellC
import Derived.Test.YtcngfcckajpkhaaCellL
import Derived.Test.YtcngfcckajpkhaaHeld
import Derived.Laws.EntriesVeiled
set_option linter.unusedVariables false
set_option linter.unusedSimpArgs false
namespace Go.Proofs.Ytcngfcckajpkhaa
open Go.RowKit Go.Shelf Go.Lib Go.BigFrame
attribute [local go_sem] Oper.semAt_some

/-- All below n but one block as it was; in that one a number. -/
structure Ct (W0 : World) (n b k : Nat) (W : World) : Prop where
  fr : Fr (fun i => i ≠ b ∧ i < n) W0 W
  box : W.heap[b]? = some (.cells #[.int .i64 (k : Int)] 3 (0, 0))
theorem Ct.to {W0 : World} {n b k : Nat} {A B : World} {S : Nat → Prop} (h : Ct W0 n b k A) (hb : b < n) (hf : Fr S A B) (hS : ∀ i, i < n → S i) : Ct W0 n b k B :=
  ⟨h.fr.trans (hf.mono fun i _ hi => hS i hi.2), (hf.block _ (Array.getElem?_eq_some_iff.1 h.box).1 (hS _ hb)).trans h.box⟩
theorem Ct.set {W0 : World} {n b k : Nat} {A : World} (h : Ct W0 n b k A) (m : Nat) : Ct W0 n b m (A.setCell ⟨b, 0, none⟩ (.int .i64 (m : Int))) :=
  ⟨h.fr.setCell _ _ (fun _ hi => hi.1 rfl), heap_setCell_same h.box _⟩
theorem Ct.old {W0 : World} {n b k : Nat} {A : World} (h : Ct W0 n b k A) {i : Nat} {o : Obj} (ho : W0.heap[i]? = some o) (h1 : i ≠ b) (h2 : i < n) : A.heap[i]? = some o :=
  (h.fr.block i (Array.getElem?_eq_some_iff.1 ho).1 ⟨h1, h2⟩).trans ho
theorem Ct.cell {W0 : World} {n b k : Nat} {A : World} (h : Ct W0 n b k A) {a : Addr} {v : Value} (ho : W0.cell? a = some v) (h1 : a.block ≠ b) (h2 : a.block < n) : A.cell? a = some v := h.fr.cell ho ⟨h1, h2⟩

/-- What lies below through all turns: the boxes, the wanted clusters. -/
structure En (w : World) (B : Nat) (s : ByteArray) (stop : Int) (A : Option Addr) (cp : Nat) (l : List C.Cl) (W : World) : Prop where
  below : Below w.heap.size w W
  lt : w.heap.size + 2 ≤ B
  size : B + 3 ≤ W.heap.size
  stop : W.heap[w.heap.size]? = some (.cells #[.int .i64 stop] 3 (0, 0))
  res : W.heap[w.heap.size + 1]? = some (.cells #[.bool false] 4 (0, 0))
  want : W.heap[B]? = some (.cells #[.slice A l.length cp] 27 (0, 0))
  str : W.cell? ⟨B + 1, 0, none⟩ = some (.string s)
  seq : W.heap[B + 2]? = some (.cells #[.func (.func 48) #[] #[.pointer (some ⟨B + 1, 0, none⟩)]] 44 (0, 0))
  rows : ∀ g, A = some ⟨g, 0, none⟩ → g < B ∧ ∀ k x, l[k]? = some x → W.cell? ⟨g, k * 5, none⟩ = some (.int .i64 (x.at_ : Int)) ∧ W.cell? ⟨g, k * 5 + 1, none⟩ = some (.int .i64 (x.len : Int)) ∧ W.cell? ⟨g, k * 5 + 2, none⟩ = some (.int .i64 (x.frm : Int)) ∧ W.cell? ⟨g, k * 5 + 3, none⟩ = some (.int .i64 (x.to_ : Int)) ∧ W.cell? ⟨g, k * 5 + 4, none⟩ = some (.int .i64 (x.cells : Int))
theorem En.to {w : World} {B : Nat} {s : ByteArray} {stop : Int} {A : Option Addr} {cp : Nat} {l : List C.Cl} {W W' : World} {S : Nat → Prop} (h : En w B s stop A cp l W) (hf : Fr S W W') (hS : ∀ i, i < B + 3 → S i) : En w B s stop A cp l W' := by
  have hlt := h.lt
  have hsz := h.size
  have bl : ∀ i o, i < B + 3 → W.heap[i]? = some o → W'.heap[i]? = some o := fun i o hi ho => (hf.block i (by omega) (hS i hi)).trans ho
  have ce : ∀ a v, a.block < B + 3 → W.cell? a = some v → W'.cell? a = some v := fun a v ha hv => hf.cell hv (hS _ ha)
  refine ⟨h.below.trans (hf.toBelow (fun k hk => hS k (by omega)) (by omega)), hlt, Nat.le_trans hsz hf.size, bl _ _ (by omega) h.stop, bl _ _ (by omega) h.res, bl _ _ (by omega) h.want, ce _ _ (by simp) h.str, bl _ _ (by omega) h.seq, fun g hg => ⟨(h.rows g hg).1, fun k x hx => ?_⟩⟩
  have hgB := (h.rows g hg).1
  obtain ⟨a0, a1, a2, a3, a4⟩ := (h.rows g hg).2 k x hx
  exact ⟨ce _ _ (by simp; omega) a0, ce _ _ (by simp; omega) a1, ce _ _ (by simp; omega) a2, ce _ _ (by simp; omega) a3, ce _ _ (by simp; omega) a4⟩

/-- 'for .. := range g' that may be left early by one way out, to the place where it ends by itself. -/
theorem wp_rf_b {P : Program} {α : Type} {g : Operand} {ps : Array Tmp} {assign body : Code} {Q : Exit → Act → World → Prop} {a : Act} {w : World} (w0 : World)
    {gf : Nat} {lb : Array Value} (hg : a.eval g = .func (.func gf) #[] lb) (eg : ∀ args w, (callFunc gf args).run P w = .ok (.enter gf args) w)
    {encs : α → Array Value} {xs : List α} {m : Nat} {C : Nat → Prop} (hseq : SeqC P gf lb encs xs m C w0) (hC0 : Fr C w0 w) (hCw : ∀ k, C k → k < w.heap.size) (hps : ∀ x, (encs x).size = ps.size)
    (I : List α → World → Prop) (id : Nat) (hQ : ∀ a W, Q .normal a W → Q (.exit id) a W)
    (hI : ∀ pre A B, Fr (fun k => k < w.heap.size ∨ w.heap.size + 2 + m ≤ k) A B → I pre A → I pre B) (h0 : I [] w)
    (hround : ∀ pre x post W, xs = pre ++ x :: post → w.heap.size + 2 + m ≤ W.heap.size → I pre W →
      assign.wpIn (Fence.wide.inRound (w.heap.size + 1)) 0 P (Exit.then (fun a2 W2 => Fr (fun k => C k ∨ (w.heap.size ≤ k ∧ k < w.heap.size + 2 + m)) W W2 ∧
        ∀ W3, Fr (fun k => k ≠ w.heap.size + 1) W2 W3 → W3.heap.size = W2.heap.size → (∃ r, W3.heap[w.heap.size + 1]? = some (.loop r)) →
        body.wpIn (Fence.wide.inRound (w.heap.size + 1)) 0 P (roundEnd (fun k => C k ∨ (w.heap.size ≤ k ∧ k < w.heap.size + 2 + m)) I (fun c pre W => c = .exit id ∧ I pre W) (pre ++ [x]) W3) a2 W3) (fun _ _ _ => False))
        { tmps := (ps.zip (encs x)).foldl (fun t (p, v) => t.setIfInBounds p v) a.tmps, defers := [] } W)
    (hfin : ∀ pre W, pre <+: xs → I pre W → W.heap[w.heap.size]? = some (.deferred (some [])) → Q .normal { a with defers := { target := .collected w.heap.size, args := #[] } :: a.defers } W) :
    (Code.rangeFunc g ps assign body).wp P Q a w :=
  wp_rf w0 hg eg hseq hC0 hCw hps I (fun c pre W => c = .exit id ∧ I pre W) hI (fun c pre A B hf h => ⟨h.1, hI pre A B hf h.2⟩) h0 hround (fun W h hD => hfin xs W (List.prefix_refl _) h hD)
    (fun c pre W hp _ h hD => by obtain ⟨rfl, h⟩ := h; exact wp_exit (hQ _ _ (hfin pre W hp h hD)))
/-- The same within a round. -/
theorem wp_rf_in_b {P : Program} {α : Type} {g : Operand} {ps : Array Tmp} {assign body : Code} {Q : Exit → Act → World → Prop} {a : Act} {w : World} (w0 : World) {l₀ : Nat} (hl0 : ∃ r, w.heap[l₀]? = some (.loop r))
    {gf : Nat} {lb : Array Value} (hg : a.eval g = .func (.func gf) #[] lb) (eg : ∀ args w, (callFunc gf args).run P w = .ok (.enter gf args) w)
    {encs : α → Array Value} {xs : List α} {m : Nat} {C : Nat → Prop} (hseq : SeqC P gf lb encs xs m C w0) (hC0 : Fr C w0 w) (hCw : ∀ k, C k → k < w.heap.size) (hps : ∀ x, (encs x).size = ps.size)
    (I : List α → World → Prop) (id : Nat) (hQ : ∀ a W, Q .normal a W → Q (.exit id) a W)
    (hI : ∀ pre A B, Fr (fun k => k < w.heap.size ∨ w.heap.size + 1 + m ≤ k) A B → I pre A → I pre B) (h0 : I [] w)
    (hround : ∀ pre x post W, xs = pre ++ x :: post → w.heap.size + 1 + m ≤ W.heap.size → I pre W →
      assign.wpIn (Fence.wide.inRound w.heap.size) 0 P (Exit.then (fun a2 W2 => Fr (fun k => C k ∨ (w.heap.size ≤ k ∧ k < w.heap.size + 1 + m)) W W2 ∧
        ∀ W3, Fr (fun k => k ≠ w.heap.size) W2 W3 → W3.heap.size = W2.heap.size → (∃ r, W3.heap[w.heap.size]? = some (.loop r)) →
        body.wpIn (Fence.wide.inRound w.heap.size) 0 P (roundEnd (fun k => C k ∨ (w.heap.size ≤ k ∧ k < w.heap.size + 1 + m)) I (fun c pre W => c = .exit id ∧ I pre W) (pre ++ [x]) W3) a2 W3) (fun _ _ _ => False))
        { tmps := (ps.zip (encs x)).foldl (fun t (p, v) => t.setIfInBounds p v) a.tmps, defers := [] } W)
    (hfin : ∀ pre W, pre <+: xs → I pre W → Q .normal a W) :
    (Code.rangeFunc g ps assign body).wpIn (Fence.wide.inRound l₀) 0 P Q a w :=
  wp_rf_in w0 hl0 hg eg hseq hC0 hCw hps I (fun c pre W => c = .exit id ∧ I pre W) hI (fun c pre A B hf h => ⟨h.1, hI pre A B hf h.2⟩) h0 hround (fun W h => hfin xs W (List.prefix_refl _) h)
    (fun c pre W hp _ h => by obtain ⟨rfl, h⟩ := h; exact wpIn_exit (hQ _ _ (hfin pre W hp h)))
theorem at_worldIn {F : Fence} {n : Nat} {P : Program} {c : Code} {Q : Exit → Act → World → Prop} {a : Act} {w : World} (h : ∀ W, w = W → Code.wpIn F n P c Q a W) : Code.wpIn F n P c Q a w := h w rfl

set_option maxRecDepth 1000000 in
set_option maxHeartbeats 8000000 in
theorem cellSeqs_law (s : ByteArray) (stop : Int) (hs : s.size ≤ 1048576) (h1 : (Lit.int .i64 stop).wf = true) (w : World) : Calls Try.prog 11 #[.string s, .int .i64 stop] w fun e w' => e = .returned (.bool true) ∧ Below w.heap.size w w' := by
  have hst : -9223372036854775808 ≤ stop ∧ stop ≤ 9223372036854775807 := by simpa [Lit.wf, IntKind.min, IntKind.max, IntKind.signed, IntKind.bits] using h1
  have hlen : (C.clus (U.toks s.data.toList)).length ≤ s.size := Nat.le_trans (C.clus_length_le _) toks_len
  have hnil : ∀ (lb : Array Value) (w : World), (binOp .eql 44 (.func (.func 48) #[] lb) .nilFunc).run Try.prog w = .ok (.bool false) w := fun _ _ => by kernel_rfl
  have CV := fun w => clustersR_any s w (by omega)
  have CI := fun Bn w hB => clusters_in s (by omega) Bn w hB
  obtain ⟨l, hl⟩ : ∃ l, C.clus (U.toks s.data.toList) = l := ⟨_, rfl⟩
  rw [hl] at hlen CV CI
  have CV := Lib.hid CV
  have CI := Lib.hid CI
  clear hl h1
  refine (callsIn_wide (n := 0)).1 (callsIn_of_wp_marks Try.func11 rfl trivial (wpIn_wide.2 ?_) rfl)
  simp only [Try.ntmps11, List.size_toArray, List.length_cons, List.length_nil, Nat.reduceAdd, Nat.reduceSub, Array.replicate_succ, Array.replicate_zero, List.push_toArray, List.append_toArray, List.nil_append, List.cons_append]
  go_wp2_with (first
    | (go_at_call 19; refine (known_any _).mono ?_; rintro e w1 ⟨rfl, hb1⟩)
    | (go_at_call 22; ((with_reducible refine (CV.out _).mono ?_); rintro e w2 ⟨v2, rfl, hb2, hr2⟩; obtain ⟨A2, cp2, rfl, hA2⟩ := own_form hr2))
    | (go_at_call 30; ((with_reducible refine (clusters_call s _).mono ?_); rintro e w3 ⟨rfl, rfl⟩)))
  obtain ⟨B, hBz⟩ : ∃ B, w2.heap.size = B := ⟨_, rfl⟩
  rw [hBz]
  refine at_world fun W0 hW0 => ?_
  have hlt1 := hb1.size
  rw [World.size_alloc, World.size_alloc] at hlt1
  have hlt2 := hb2.size
  have EN0 : En w B s stop A2 cp2 l W0 ∧ W0.heap[B + 3]? = some (.cells #[.int .i64 0] 3 (0, 0)) ∧ W0.heap.size = B + 4 := by
    have hz : W0.heap.size = B + 4 := by rw [← hW0]; simp; omega
    have k0 : Below w.heap.size w w2 := ((((Below.refl _ _).alloc (Nat.le_refl _) _).alloc (by simp) _).trans (hb1.mono (by simp; omega))).trans (hb2.mono (by omega))
    have k2 : ∀ i o, i < B → w2.heap[i]? = some o → W0.heap[i]? = some o := fun i o hi ho => by
      rw [← hW0]
      exact (Below.heap_alloc _ _ _ (by simp; omega)).trans ((Below.heap_alloc _ _ _ (by simp; omega)).trans ((Below.heap_alloc _ _ _ (by simp; omega)).trans ((Below.heap_alloc _ _ _ (by omega)).trans ho)))
    have kb : Below B w2 W0 := by rw [← hW0]; exact (((((Below.refl B w2).alloc (by omega) _).alloc (by simp; omega) _).alloc (by simp; omega) _).alloc (by simp; omega) _)
    have o1 : ((w.alloc (.cells #[.int .i64 stop] 3)).alloc (.cells #[.bool false] 4)).heap[w.heap.size]? = some (.cells #[.int .i64 stop] 3 (0, 0)) := (Below.heap_alloc _ _ _ (by simp)).trans (World.alloc_heap_new w _)
    have o2 : ((w.alloc (.cells #[.int .i64 stop] 3)).alloc (.cells #[.bool false] 4)).heap[w.heap.size + 1]? = some (.cells #[.bool false] 4 (0, 0)) := by
      have := World.alloc_heap_new (w.alloc (.cells #[.int .i64 stop] 3)) (.cells #[.bool false] 4)
      rwa [World.size_alloc] at this
    refine ⟨⟨k0.trans (kb.mono (by omega)), by omega, by omega, ?_, ?_, ?_, ?_, ?_, fun g hg => ⟨?_, fun k x hx => ?_⟩⟩, ?_, hz⟩
    · exact k2 _ _ (by omega) ((hb2.block _ (by omega)).trans ((hb1.block _ (by simp; omega)).trans o1))
    · exact k2 _ _ (by omega) ((hb2.block _ (by omega)).trans ((hb1.block _ (by simp)).trans o2))
    · rw [← hW0, ← hBz]
      exact (Below.heap_alloc _ _ _ (by simp; omega)).trans ((Below.heap_alloc _ _ _ (by simp; omega)).trans ((Below.heap_alloc _ _ _ (by simp)).trans (World.alloc_heap_new w2 _)))
    · rw [← hW0, ← hBz]
      have := (cell_new (w2.alloc (.cells #[.slice A2 l.length cp2] 27)) (.string s) 9).1
      rw [World.size_alloc] at this
      rw [World.cell?_of_block (Below.heap_alloc _ _ _ (by simp)), World.cell?_of_block (Below.heap_alloc _ _ _ (by simp))]
      exact this
    · rw [← hW0, ← hBz]
      refine (Below.heap_alloc _ _ _ (by simp)).trans ?_
      have := World.alloc_heap_new ((w2.alloc (.cells #[.slice A2 l.length cp2] 27)).alloc (.cells #[.string s] 9)) (.cells #[.func (.func 48) #[] #[.pointer (some ⟨w2.heap.size + 1, 0, none⟩)]] 44)
      rwa [World.size_alloc, World.size_alloc] at this
    · subst hg; have := (hr2.lt g rfl).2; omega
    · subst hg
      obtain ⟨b0, b1, b2, b3, b4⟩ := cellsC_at (own_below hr2 (by rw [hBz]; exact kb)) hx
      exact ⟨b0, b1, b2, b3, b4⟩
    · rw [← hW0, ← hBz]
      have := World.alloc_heap_new (((w2.alloc (.cells #[.slice A2 l.length cp2] 27)).alloc (.cells #[.string s] 9)).alloc (.cells #[.func (.func 48) #[] #[.pointer (some ⟨w2.heap.size + 1, 0, none⟩)]] 44)) (.cells #[.int .i64 0] 3)
      rwa [World.size_alloc, World.size_alloc, World.size_alloc] at this
  obtain ⟨EN0, hT0, hz0⟩ := EN0
  clear hW0 hb1 hb2 hr2 hlt1 hlt2 hBz
  have hwB : w.heap.size + 2 ≤ B := EN0.lt
  have EN0 := Lib.hid EN0
  have ct := (cell_of_block hT0).1
  have cs := (cell_of_block EN0.out.seq).1
  refine wp_loop_rounds 4 ?_
  rw [rounds_succ]
  go_wp2
  refine at_world fun V0 hV0 => ?_
  have hv0 : V0.heap.size = B + 4 + 1 := by rw [← hV0]; simp; omega
  have hf1 : Fr (fun i => i < B + 4) W0 V0 := by rw [← hV0]; exact (Fr.refl _ _).alloc _
  have EN1 := Lib.hid (EN0.out.to hf1 (fun i hi => by omega))
  have hTt : V0.heap[B + 3]? = some (.cells #[.int .i64 0] 3 (0, 0)) := (hf1.block _ (by omega) (by omega)).trans hT0
  have hKk : V0.heap[B + 4]? = some (.cells #[.int .i64 0] 3 (0, 0)) := by
    have := World.alloc_heap_new W0 (.cells #[.int .i64 0] 3)
    rw [hV0, hz0] at this
    exact this
  clear hV0 hf1 hT0 ct cs
  refine wp_rf_b V0 rfl enters_clusters (CI.out (B + 1) V0 EN1.out.str) (Fr.refl _ _) (fun k h => by omega) (fun _ => rfl)
    (fun pre W => Ct V0 (B + 4 + 1) (B + 4) pre.length W) 2 (fun _ _ h => h) ?hI ⟨Fr.refl _ _, hKk⟩ ?round ?fin
  case hI => intro pre A D hf h; exact h.to (by omega) hf (fun i hi => by omega)
  case round =>
    rintro pre x post W hx hsz hT
    have hpl : pre.length < l.length := by rw [hx]; simp
    have hxk : l[pre.length]? = some x := by rw [hx]; simp
    obtain ⟨g, rfl⟩ := hA2 (by omega)
    clear hx
    unfold encC
    gi_wp2
    refine ⟨(Fr.refl _ _).alloc _, fun W3 hf3 hs3 hr3 => ?_⟩
    have hx3 : W3.heap[W.heap.size]? = some (.cells #[.int .i64 (x.at_ : Int), .int .i64 (x.len : Int), .int .i64 (x.frm : Int), .int .i64 (x.to_ : Int), .int .i64 (x.cells : Int)] 33 (0, 0)) := rx_new hf3 (by omega)
    have hT3 := (hT.to (by omega) ((Fr.refl (fun _ => True) W).alloc (.cells #[.int .i64 (x.at_ : Int), .int .i64 (x.len : Int), .int .i64 (x.frm : Int), .int .i64 (x.to_ : Int), .int .i64 (x.cells : Int)] 33)) (fun _ _ => trivial)).to (by omega) hf3 (fun i hi => by omega)
    have E3 := EN1.out.to hT3.fr (fun i hi => by omega)
    have hW3 : B + 4 + 1 ≤ W3.heap.size := by have := hT3.fr.size; omega
    have hW3b : W.heap.size < W3.heap.size := by rw [hs3]; simp
    have c0 : W3.cell? ⟨W.heap.size, 0, none⟩ = some (.int .i64 (x.at_ : Int)) := by simp [World.cell?, hx3]
    have c1 : W3.cell? ⟨W.heap.size, 1, none⟩ = some (.int .i64 (x.len : Int)) := by simp [World.cell?, hx3]
    have c2 : W3.cell? ⟨W.heap.size, 2, none⟩ = some (.int .i64 (x.frm : Int)) := by simp [World.cell?, hx3]
    have c3 : W3.cell? ⟨W.heap.size, 3, none⟩ = some (.int .i64 (x.to_ : Int)) := by simp [World.cell?, hx3]
    have c4 : W3.cell? ⟨W.heap.size, 4, none⟩ = some (.int .i64 (x.cells : Int)) := by simp [World.cell?, hx3]
    have ck := (cell_of_block hT3.box).1
    have cw := (cell_of_block E3.want).1
    obtain ⟨a0, a1, a2, a3, a4⟩ := (E3.rows g rfl).2 pre.length x hxk
    have he := fun w => eq_cellsC x x w
    rw [decide_eq_true rfl] at he
    unfold encC at he
    have HT3 := Lib.hid hT3
    clear hT hf3 hs3 hx3 hT3 E3 hxk
    obtain ⟨X1, f1, hfb1, hfs1⟩ := aboves W3
    obtain ⟨x01, hx01⟩ := hfs1 W3.drew (Below.refl _ _).drew
    have : Nonempty X1 := ⟨x01⟩
    have Q1 : ∀ q a v, W3.cell? a = some v → (f1 q).cell? a = some v := fun q a v hc => (World.cell?_of_block ((hfb1 q).block _ (World.block_lt_of_cell? W3 _ hc))).trans hc
    have q01 := fun q => Q1 q _ _ ck
    have q11 := fun q => Q1 q _ _ cw
    have qa01 := fun q => Q1 q _ _ a0
    have qa11 := fun q => Q1 q _ _ a1
    have qa21 := fun q => Q1 q _ _ a2
    have qa31 := fun q => Q1 q _ _ a3
    have qa41 := fun q => Q1 q _ _ a4
    have qc01 := fun q => Q1 q _ _ c0
    have qc11 := fun q => Q1 q _ _ c1
    have qc21 := fun q => Q1 q _ _ c2
    have qc31 := fun q => Q1 q _ _ c3
    have qc41 := fun q => Q1 q _ _ c4
    have AS1 : Hid (∀ q, Calls Try.prog 24 #[encC x] (f1 q) fun e w'' => e = .returned (encC x) ∧ ∃ y, w'' = f1 y) := Lib.hid (fun q => (as_any x (f1 q)).mono fun e w'' ⟨h1, h2⟩ => ⟨h1, hfs1 w'' ((hfb1 q).trans (h2.mono (hfb1 q).size))⟩)
    unfold encC at AS1
    gi_wp2
    refine wpIn_region_held_lit f1 ⟨x01, hx01⟩ (by kernel_rfl) (by kernel_rfl) (by kernel_rfl) ?_
    repeat (first | go_big_quiet_step ((go_at_call 24; exact AS1.out _)) | quiet_step ((go_at_call 24; exact AS1.out _)))
    refine wpQuiet_nil ?_
    rintro _ ⟨nq, rfl⟩
    have hY := hfb1 nq
    generalize f1 nq = Y at *
    have hTY := HT3.out.to (by omega) (Fr.of_below (S := fun i => i < W3.heap.size) hY (fun i h _ => h)) (fun i hi => by omega)
    have EY := EN1.out.to hTY.fr (fun i hi => by omega)
    have ck := (cell_of_block hTY.box).1
    have fk := (cell_of_block hTY.box).2
    have ctt := (cell_of_block (hTY.old hTt (by omega) (by omega))).1
    have cst := (cell_of_block EY.stop).1
    have csq := (cell_of_block EY.seq).1
    have HTY := Lib.hid hTY
    have FINW : Hid (∀ Z, Fr (fun i => i < B + 4 + 1 ∨ (V0.heap.size ≤ i ∧ i < V0.heap.size + 2 + 6)) W3 Z → Ct V0 (B + 4 + 1) (B + 4) pre.length Z → Fr (fun k => k = B + 1 ∨ (V0.heap.size ≤ k ∧ k < V0.heap.size + 2 + 6)) W3 (Z.setCell ⟨B + 4, 0, none⟩ (.int .i64 ((pre.length : Int) + 1))) ∧ Ct V0 (B + 4 + 1) (B + 4) (pre ++ [x]).length (Z.setCell ⟨B + 4, 0, none⟩ (.int .i64 ((pre.length : Int) + 1)))) :=
      Lib.hid (fun Z hZ hc => ⟨(hZ.mono (fun k _ h => by omega)).setCell _ _ (fun _ h => by simp at h; omega), by rw [List.length_append]; exact hc.set _⟩)
    clear hTY EY
    have hF := FINW.out Y (Fr.of_below (S := fun i => i < B + 4 + 1 ∨ (V0.heap.size ≤ i ∧ i < V0.heap.size + 2 + 6)) hY (fun i h _ => h)) HTY.out
    have HF := Lib.hid hF
    clear hF FINW HTY HT3
    by_cases hst : (pre.length : Int) + 1 = stop
    · gi_wp2
      have h := HF.out
      rw [hst] at h
      first | exact ⟨h.1, rfl, h.2⟩ | (rw [hv0] at h; exact ⟨h.1, rfl, h.2⟩)
    · gi_wp2
      first | exact HF.out | (have h := HF.out; rw [hv0] at h; exact h)
  case fin =>
    rintro pre W hpx hT hD
    have hml : pre.length ≤ l.length := hpx.length_le
    have E2 := EN1.out.to hT.fr (fun i hi => by omega)
    have ck := (cell_of_block hT.box).1
    have ctt := (cell_of_block (hT.old hTt (by omega) (by omega))).1
    have cw := (cell_of_block E2.want).1
    have csq := (cell_of_block E2.seq).1
    rw [hv0] at hD
    obtain ⟨T2, hT2⟩ : ∃ T, W.heap.size = T := ⟨_, rfl⟩
    have hWs := hT.fr.size
    have hDT0 : B + 4 + 1 < T2 := by have := (Array.getElem?_eq_some_iff.1 hD).1; omega
    have hBT0 : B + 3 < T2 := by omega
    have EE := Lib.hid E2
    clear E2 hT
    go_wp2
    rw [rounds_succ]
    refine at_world fun Wn0 hWn => ?_
    have hzn : Wn0.heap.size = T2 + 1 := by rw [← hWn]; simp; omega
    have hfn : Fr (fun i => i < T2) W Wn0 := by rw [← hWn]; exact (Fr.refl _ _).alloc _
    have EN0 := Lib.hid (EE.out.to hfn (fun i hi => by omega))
    have hTn : Wn0.heap[T2]? = some (.cells #[.int .i64 1] 3 (0, 0)) := by
      have := World.alloc_heap_new W (.cells #[.int .i64 1] 3)
      rw [hWn, hT2] at this
      exact this
    have hd0 : Wn0.heap[B + 4 + 1]? = some (.deferred (some [])) := (hfn.block _ (by omega) (by omega)).trans hD
    have ct := (cell_of_block hTn).1
    have cs := (cell_of_block EN0.out.seq).1
    have cs2 : (Wn0.alloc (.cells #[.int .i64 0] 3)).cell? ⟨B + 2, 0, none⟩ = some (.func (.func 48) #[] #[.pointer (some ⟨B + 1, 0, none⟩)]) := (World.cell?_of_block (Below.heap_alloc _ _ _ (by simp; omega))).trans cs
    have hq2 : B + 2 < Wn0.heap.size := by omega
    clear hWn hfn EE EN1 hD hT2 hWs ck ctt cw csq hTt hKk
    go_wp2
    refine at_world fun V1 hV1 => ?_
    have hv1 : V1.heap.size = T2 + 1 + 1 := by rw [← hV1]; simp; omega
    have hf1 : Fr (fun i => i < T2 + 1) Wn0 V1 := by rw [← hV1]; exact (Fr.refl _ _).alloc _
    have EN1 := Lib.hid (EN0.out.to hf1 (fun i hi => by omega))
    have hTt : V1.heap[T2]? = some (.cells #[.int .i64 1] 3 (0, 0)) := (hf1.block _ (by omega) (by omega)).trans hTn
    have hKk : V1.heap[T2 + 1]? = some (.cells #[.int .i64 0] 3 (0, 0)) := by
      have := World.alloc_heap_new Wn0 (.cells #[.int .i64 0] 3)
      rw [hV1, hzn] at this
      exact this
    have hd0 : V1.heap[B + 4 + 1]? = some (.deferred (some [])) := (hf1.block _ (by omega) (by omega)).trans hd0
    clear hV1 hf1 hTn ct cs
    refine wp_rf V1 rfl enters_clusters (CI.out (B + 1) V1 EN1.out.str) (Fr.refl _ _) (fun k h => by omega) (fun _ => rfl)
      (fun pre W => Ct V1 (T2 + 1 + 1) (T2 + 1) pre.length W) (fun _ _ _ => False) ?hI (fun _ _ _ _ _ h => h) ⟨Fr.refl _ _, hKk⟩ ?round ?fin (fun c pre W _ _ h => h.elim)
    case hI => intro pre A D hf h; exact h.to (by omega) hf (fun i hi => by omega)
    case round =>
      rintro pre x post W hx hsz hT
      have hpl : pre.length < l.length := by rw [hx]; simp
      have hxk : l[pre.length]? = some x := by rw [hx]; simp
      obtain ⟨g, rfl⟩ := hA2 (by omega)
      clear hx
      unfold encC
      gi_wp2
      refine ⟨(Fr.refl _ _).alloc _, fun W3 hf3 hs3 hr3 => ?_⟩
      have hx3 : W3.heap[W.heap.size]? = some (.cells #[.int .i64 (x.at_ : Int), .int .i64 (x.len : Int), .int .i64 (x.frm : Int), .int .i64 (x.to_ : Int), .int .i64 (x.cells : Int)] 33 (0, 0)) := rx_new hf3 (by omega)
      have hT3 := (hT.to (by omega) ((Fr.refl (fun _ => True) W).alloc (.cells #[.int .i64 (x.at_ : Int), .int .i64 (x.len : Int), .int .i64 (x.frm : Int), .int .i64 (x.to_ : Int), .int .i64 (x.cells : Int)] 33)) (fun _ _ => trivial)).to (by omega) hf3 (fun i hi => by omega)
      have E3 := EN1.out.to hT3.fr (fun i hi => by omega)
      have hW3 : T2 + 1 + 1 ≤ W3.heap.size := by have := hT3.fr.size; omega
      have hW3b : W.heap.size < W3.heap.size := by rw [hs3]; simp
      have c0 : W3.cell? ⟨W.heap.size, 0, none⟩ = some (.int .i64 (x.at_ : Int)) := by simp [World.cell?, hx3]
      have c1 : W3.cell? ⟨W.heap.size, 1, none⟩ = some (.int .i64 (x.len : Int)) := by simp [World.cell?, hx3]
      have c2 : W3.cell? ⟨W.heap.size, 2, none⟩ = some (.int .i64 (x.frm : Int)) := by simp [World.cell?, hx3]
      have c3 : W3.cell? ⟨W.heap.size, 3, none⟩ = some (.int .i64 (x.to_ : Int)) := by simp [World.cell?, hx3]
      have c4 : W3.cell? ⟨W.heap.size, 4, none⟩ = some (.int .i64 (x.cells : Int)) := by simp [World.cell?, hx3]
      have ck := (cell_of_block hT3.box).1
      have cw := (cell_of_block E3.want).1
      obtain ⟨a0, a1, a2, a3, a4⟩ := (E3.rows g rfl).2 pre.length x hxk
      have he := fun w => eq_cellsC x x w
      rw [decide_eq_true rfl] at he
      unfold encC at he
      have HT3 := Lib.hid hT3
      clear hT hf3 hs3 hx3 hT3 E3 hxk
      obtain ⟨X1, f1, hfb1, hfs1⟩ := aboves W3
      obtain ⟨x01, hx01⟩ := hfs1 W3.drew (Below.refl _ _).drew
      have : Nonempty X1 := ⟨x01⟩
      have Q1 : ∀ q a v, W3.cell? a = some v → (f1 q).cell? a = some v := fun q a v hc => (World.cell?_of_block ((hfb1 q).block _ (World.block_lt_of_cell? W3 _ hc))).trans hc
      have q01 := fun q => Q1 q _ _ ck
      have q11 := fun q => Q1 q _ _ cw
      have qa01 := fun q => Q1 q _ _ a0
      have qa11 := fun q => Q1 q _ _ a1
      have qa21 := fun q => Q1 q _ _ a2
      have qa31 := fun q => Q1 q _ _ a3
      have qa41 := fun q => Q1 q _ _ a4
      have qc01 := fun q => Q1 q _ _ c0
      have qc11 := fun q => Q1 q _ _ c1
      have qc21 := fun q => Q1 q _ _ c2
      have qc31 := fun q => Q1 q _ _ c3
      have qc41 := fun q => Q1 q _ _ c4
      have AS1 : Hid (∀ q, Calls Try.prog 24 #[encC x] (f1 q) fun e w'' => e = .returned (encC x) ∧ ∃ y, w'' = f1 y) := Lib.hid (fun q => (as_any x (f1 q)).mono fun e w'' ⟨h1, h2⟩ => ⟨h1, hfs1 w'' ((hfb1 q).trans (h2.mono (hfb1 q).size))⟩)
      unfold encC at AS1
      gi_wp2
      refine wpIn_region_held_lit f1 ⟨x01, hx01⟩ (by kernel_rfl) (by kernel_rfl) (by kernel_rfl) ?_
      repeat (first | go_big_quiet_step ((go_at_call 24; exact AS1.out _)) | quiet_step ((go_at_call 24; exact AS1.out _)))
      refine wpQuiet_nil ?_
      rintro _ ⟨nq, rfl⟩
      have hY := hfb1 nq
      generalize f1 nq = Y at *
      have hTY := HT3.out.to (by omega) (Fr.of_below (S := fun i => i < W3.heap.size) hY (fun i h _ => h)) (fun i hi => by omega)
      have EY := EN1.out.to hTY.fr (fun i hi => by omega)
      have ck := (cell_of_block hTY.box).1
      have fk := (cell_of_block hTY.box).2
      have ctt := (cell_of_block (hTY.old hTt (by omega) (by omega))).1
      have cst := (cell_of_block EY.stop).1
      have csq := (cell_of_block EY.seq).1
      have HTY := Lib.hid hTY
      have FINW : Hid (∀ Z, Fr (fun i => i < T2 + 1 + 1 ∨ (V1.heap.size ≤ i ∧ i < V1.heap.size + 2 + 6)) W3 Z → Ct V1 (T2 + 1 + 1) (T2 + 1) pre.length Z → Fr (fun k => k = B + 1 ∨ (V1.heap.size ≤ k ∧ k < V1.heap.size + 2 + 6)) W3 (Z.setCell ⟨T2 + 1, 0, none⟩ (.int .i64 ((pre.length : Int) + 1))) ∧ Ct V1 (T2 + 1 + 1) (T2 + 1) (pre ++ [x]).length (Z.setCell ⟨T2 + 1, 0, none⟩ (.int .i64 ((pre.length : Int) + 1)))) :=
        Lib.hid (fun Z hZ hc => ⟨(hZ.mono (fun k _ h => by omega)).setCell _ _ (fun _ h => by simp at h; omega), by rw [List.length_append]; exact hc.set _⟩)
      clear hTY EY
      by_cases h3 : (pre.length : Int) < 3
      · have csq2 : (Y.alloc (.cells #[.int .i64 0] 3)).cell? ⟨B + 2, 0, none⟩ = some (.func (.func 48) #[] #[.pointer (some ⟨B + 1, 0, none⟩)]) := (World.cell?_of_block (Below.heap_alloc _ _ _ (by have := hY.size; simp; omega))).trans csq
        have hq3 : B + 2 < Y.heap.size := by have := hY.size; omega
        gi_wp2
        refine at_worldIn fun W4 hW4 => ?_
        obtain ⟨M, hM⟩ : ∃ M, Y.heap.size = M := ⟨_, rfl⟩
        have hYz := hY.size
        have hz4 : W4.heap.size = M + 1 := by rw [← hW4]; simp; omega
        have hf4 : Fr (fun i => i < M) Y W4 := by rw [← hW4]; exact (Fr.refl _ _).alloc _
        have hT4 := HTY.out.to (by omega) hf4 (fun i hi => by omega)
        have EN4 := Lib.hid (EN1.out.to hT4.fr (fun i hi => by omega))
        have hMm : W4.heap[M]? = some (.cells #[.int .i64 0] 3 (0, 0)) := by
          have := World.alloc_heap_new Y (.cells #[.int .i64 0] 3)
          rw [hW4, hM] at this
          exact this
        have hl4 : ∃ r, W4.heap[V1.heap.size + 1]? = some (.loop r) := by
          obtain ⟨r, hr⟩ := hr3
          have h1 := (Array.getElem?_eq_some_iff.1 hr).1
          exact ⟨r, (hf4.block _ (by omega) (by omega)).trans ((hY.block _ h1).trans hr)⟩
        rw [hM]
        clear hW4 ck fk ctt cst csq csq2 hq3
        refine wp_rf_in_b W4 hl4 rfl enters_clusters (CI.out (B + 1) W4 EN4.out.str) (Fr.refl _ _) (fun k h => by omega) (fun _ => rfl)
          (fun pre W => Ct W4 (M + 1) M pre.length W) 4 (fun _ _ h => h) ?hI2 ⟨Fr.refl _ _, hMm⟩ ?round2 ?fin2
        case hI2 => intro pre A D hf h; exact h.to (by omega) hf (fun i hi => by omega)
        case round2 =>
          clear a0 a1 a2 a3 a4 he
          rintro pre2 x post2 W5 hx2 hsz2 hT5
          have hpl2 : pre2.length < l.length := by rw [hx2]; simp
          have hxk : l[pre2.length]? = some x := by rw [hx2]; simp
          clear hx2
          unfold encC
          gi_wp2
          refine ⟨(Fr.refl _ _).alloc _, fun W3 hf3 hs3 hr3' => ?_⟩
          have hx3 : W3.heap[W5.heap.size]? = some (.cells #[.int .i64 (x.at_ : Int), .int .i64 (x.len : Int), .int .i64 (x.frm : Int), .int .i64 (x.to_ : Int), .int .i64 (x.cells : Int)] 33 (0, 0)) := rx_new hf3 (by omega)
          have hT3 := (hT5.to (by omega) ((Fr.refl (fun _ => True) W5).alloc (.cells #[.int .i64 (x.at_ : Int), .int .i64 (x.len : Int), .int .i64 (x.frm : Int), .int .i64 (x.to_ : Int), .int .i64 (x.cells : Int)] 33)) (fun _ _ => trivial)).to (by omega) hf3 (fun i hi => by omega)
          have E3 := EN4.out.to hT3.fr (fun i hi => by omega)
          have hW3 : M + 1 ≤ W3.heap.size := by have := hT3.fr.size; omega
          have c0 : W3.cell? ⟨W5.heap.size, 0, none⟩ = some (.int .i64 (x.at_ : Int)) := by simp [World.cell?, hx3]
          have c1 : W3.cell? ⟨W5.heap.size, 1, none⟩ = some (.int .i64 (x.len : Int)) := by simp [World.cell?, hx3]
          have c2 : W3.cell? ⟨W5.heap.size, 2, none⟩ = some (.int .i64 (x.frm : Int)) := by simp [World.cell?, hx3]
          have c3 : W3.cell? ⟨W5.heap.size, 3, none⟩ = some (.int .i64 (x.to_ : Int)) := by simp [World.cell?, hx3]
          have c4 : W3.cell? ⟨W5.heap.size, 4, none⟩ = some (.int .i64 (x.cells : Int)) := by simp [World.cell?, hx3]
          have ck := (cell_of_block hT3.box).1
          have cw := (cell_of_block E3.want).1
          obtain ⟨a0, a1, a2, a3, a4⟩ := (E3.rows g rfl).2 pre2.length x hxk
          have he := fun w => eq_cellsC x x w
          rw [decide_eq_true rfl] at he
          unfold encC at he
          have HT3 := Lib.hid hT3
          clear hT5 hf3 hs3 hx3 hT3 E3 hxk hr3'
          obtain ⟨X2, f2, hfb2, hfs2⟩ := aboves W3
          obtain ⟨x02, hx02⟩ := hfs2 W3.drew (Below.refl _ _).drew
          have : Nonempty X2 := ⟨x02⟩
          have Q2 : ∀ q a v, W3.cell? a = some v → (f2 q).cell? a = some v := fun q a v hc => (World.cell?_of_block ((hfb2 q).block _ (World.block_lt_of_cell? W3 _ hc))).trans hc
          have q02 := fun q => Q2 q _ _ ck
          have q12 := fun q => Q2 q _ _ cw
          have qa02 := fun q => Q2 q _ _ a0
          have qa12 := fun q => Q2 q _ _ a1
          have qa22 := fun q => Q2 q _ _ a2
          have qa32 := fun q => Q2 q _ _ a3
          have qa42 := fun q => Q2 q _ _ a4
          have qc02 := fun q => Q2 q _ _ c0
          have qc12 := fun q => Q2 q _ _ c1
          have qc22 := fun q => Q2 q _ _ c2
          have qc32 := fun q => Q2 q _ _ c3
          have qc42 := fun q => Q2 q _ _ c4
          have AS2 : Hid (∀ q, Calls Try.prog 24 #[encC x] (f2 q) fun e w'' => e = .returned (encC x) ∧ ∃ y, w'' = f2 y) := Lib.hid (fun q => (as_any x (f2 q)).mono fun e w'' ⟨h1, h2⟩ => ⟨h1, hfs2 w'' ((hfb2 q).trans (h2.mono (hfb2 q).size))⟩)
          unfold encC at AS2
          gi_wp2
          refine wpIn_region_held_lit f2 ⟨x02, hx02⟩ (by kernel_rfl) (by kernel_rfl) (by kernel_rfl) ?_
          repeat (first | go_big_quiet_step ((go_at_call 24; exact AS2.out _)) | quiet_step ((go_at_call 24; exact AS2.out _)))
          refine wpQuiet_nil ?_
          rintro _ ⟨nq, rfl⟩
          have hY2 := hfb2 nq
          generalize f2 nq = Y2 at *
          have hTY2 := HT3.out.to (by omega) (Fr.of_below (S := fun i => i < W3.heap.size) hY2 (fun i h _ => h)) (fun i hi => by omega)
          have EY := EN4.out.to hTY2.fr (fun i hi => by omega)
          have ck := (cell_of_block hTY2.box).1
          have fk := (cell_of_block hTY2.box).2
          have cst := (cell_of_block EY.stop).1
          have hF : Fr (fun k => k = B + 1 ∨ (W4.heap.size ≤ k ∧ k < W4.heap.size + 1 + 6)) W3 (Y2.setCell ⟨M, 0, none⟩ (.int .i64 ((pre2.length : Int) + 1))) ∧ Ct W4 (M + 1) M (pre2 ++ [x]).length (Y2.setCell ⟨M, 0, none⟩ (.int .i64 ((pre2.length : Int) + 1))) :=
            ⟨(Fr.of_below hY2 (fun i h _ => h)).setCell _ _ (fun _ h => by simp at h; omega), by rw [List.length_append]; exact hTY2.set _⟩
          have HF := Lib.hid hF
          clear hF hTY2 EY HT3
          by_cases hst2 : (pre2.length : Int) + 1 = stop
          · gi_wp2
            have h := HF.out
            rw [hst2] at h
            first | exact ⟨h.1, rfl, h.2⟩ | (rw [hz4] at h; exact ⟨h.1, rfl, h.2⟩)
          · gi_wp2
            first | exact HF.out | (have h := HF.out; rw [hz4] at h; exact h)
        case fin2 =>
          rintro pre2 W5 hpx hT5
          have hT6 := hT4.to (by omega) hT5.fr (fun i hi => by omega)
          have hFz : Fr (fun i => i < T2 + 1 + 1 ∨ (V1.heap.size ≤ i ∧ i < V1.heap.size + 2 + 6)) W3 W5 := ((Fr.of_below hY (fun i h _ => h)).trans (hf4.mono (fun i _ h => by omega))).trans (hT5.fr.mono (fun i _ h => by omega))
          have ck := (cell_of_block hT6.box).1
          have fk := (cell_of_block hT6.box).2
          have ctt := (cell_of_block (hT6.old hTt (by omega) (by omega))).1
          have HF := Lib.hid (FINW.out W5 hFz hT6)
          clear hT6 hFz hT5 hT4 FINW HTY HT3
          gi_wp2
          first | exact HF.out | (have h := HF.out; rw [hv1] at h; exact h)
      · have HF := Lib.hid (FINW.out Y (Fr.of_below (S := fun i => i < T2 + 1 + 1 ∨ (V1.heap.size ≤ i ∧ i < V1.heap.size + 2 + 6)) hY (fun i h _ => h)) HTY.out)
        clear FINW HTY HT3
        gi_wp2
        first | exact HF.out | (have h := HF.out; rw [hv1] at h; exact h)
    case fin =>
      rintro W hT hD
      have E2 := EN1.out.to hT.fr (fun i hi => by omega)
      have ck := (cell_of_block hT.box).1
      have ctt := (cell_of_block (hT.old hTt (by omega) (by omega))).1
      have cw := (cell_of_block E2.want).1
      have csq := (cell_of_block E2.seq).1
      have hd0 : W.heap[B + 4 + 1]? = some (.deferred (some [])) := hT.old hd0 (by omega) (by omega)
      rw [hv1] at hD
      obtain ⟨T3, hT3⟩ : ∃ T, W.heap.size = T := ⟨_, rfl⟩
      have hWs := hT.fr.size
      have hDT1 : T2 + 1 + 1 < T3 := by have := (Array.getElem?_eq_some_iff.1 hD).1; omega
      have hBT1 : B + 3 < T3 := by omega
      have EE := Lib.hid E2
      clear E2 hT
      go_wp2
      rw [rounds_succ]
      refine at_world fun Wn1 hWn => ?_
      have hzn : Wn1.heap.size = T3 + 1 := by rw [← hWn]; simp; omega
      have hfn : Fr (fun i => i < T3) W Wn1 := by rw [← hWn]; exact (Fr.refl _ _).alloc _
      have EN0 := Lib.hid (EE.out.to hfn (fun i hi => by omega))
      have hTn : Wn1.heap[T3]? = some (.cells #[.int .i64 2] 3 (0, 0)) := by
        have := World.alloc_heap_new W (.cells #[.int .i64 2] 3)
        rw [hWn, hT3] at this
        exact this
      have hd0 : Wn1.heap[B + 4 + 1]? = some (.deferred (some [])) := (hfn.block _ (by omega) (by omega)).trans hd0
      have hd1 : Wn1.heap[T2 + 1 + 1]? = some (.deferred (some [])) := (hfn.block _ (by omega) (by omega)).trans hD
      have ct := (cell_of_block hTn).1
      have cs := (cell_of_block EN0.out.seq).1
      have cs2 : (Wn1.alloc (.cells #[.int .i64 0] 3)).cell? ⟨B + 2, 0, none⟩ = some (.func (.func 48) #[] #[.pointer (some ⟨B + 1, 0, none⟩)]) := (World.cell?_of_block (Below.heap_alloc _ _ _ (by simp; omega))).trans cs
      have hq2 : B + 2 < Wn1.heap.size := by omega
      clear hWn hfn EE EN1 hD hT3 hWs ck ctt cw csq hTt hKk
      go_wp2
      refine at_world fun V2 hV2 => ?_
      have hv2 : V2.heap.size = T3 + 1 + 1 := by rw [← hV2]; simp; omega
      have hf1 : Fr (fun i => i < T3 + 1) Wn1 V2 := by rw [← hV2]; exact (Fr.refl _ _).alloc _
      have EN1 := Lib.hid (EN0.out.to hf1 (fun i hi => by omega))
      have hTt : V2.heap[T3]? = some (.cells #[.int .i64 2] 3 (0, 0)) := (hf1.block _ (by omega) (by omega)).trans hTn
      have hKk : V2.heap[T3 + 1]? = some (.cells #[.int .i64 0] 3 (0, 0)) := by
        have := World.alloc_heap_new Wn1 (.cells #[.int .i64 0] 3)
        rw [hV2, hzn] at this
        exact this
      have hd0 : V2.heap[B + 4 + 1]? = some (.deferred (some [])) := (hf1.block _ (by omega) (by omega)).trans hd0
      have hd1 : V2.heap[T2 + 1 + 1]? = some (.deferred (some [])) := (hf1.block _ (by omega) (by omega)).trans hd1
      clear hV2 hf1 hTn ct cs
      refine wp_rf V2 rfl enters_clusters (CI.out (B + 1) V2 EN1.out.str) (Fr.refl _ _) (fun k h => by omega) (fun _ => rfl)
        (fun pre W => Ct V2 (T3 + 1 + 1) (T3 + 1) pre.length W) (fun _ _ _ => False) ?hI (fun _ _ _ _ _ h => h) ⟨Fr.refl _ _, hKk⟩ ?round ?fin (fun c pre W _ _ h => h.elim)
      case hI => intro pre A D hf h; exact h.to (by omega) hf (fun i hi => by omega)
      case round =>
        rintro pre x post W hx hsz hT
        have hpl : pre.length < l.length := by rw [hx]; simp
        have hxk : l[pre.length]? = some x := by rw [hx]; simp
        obtain ⟨g, rfl⟩ := hA2 (by omega)
        clear hx
        unfold encC
        gi_wp2
        refine ⟨(Fr.refl _ _).alloc _, fun W3 hf3 hs3 hr3 => ?_⟩
        have hx3 : W3.heap[W.heap.size]? = some (.cells #[.int .i64 (x.at_ : Int), .int .i64 (x.len : Int), .int .i64 (x.frm : Int), .int .i64 (x.to_ : Int), .int .i64 (x.cells : Int)] 33 (0, 0)) := rx_new hf3 (by omega)
        have hT3 := (hT.to (by omega) ((Fr.refl (fun _ => True) W).alloc (.cells #[.int .i64 (x.at_ : Int), .int .i64 (x.len : Int), .int .i64 (x.frm : Int), .int .i64 (x.to_ : Int), .int .i64 (x.cells : Int)] 33)) (fun _ _ => trivial)).to (by omega) hf3 (fun i hi => by omega)
        have E3 := EN1.out.to hT3.fr (fun i hi => by omega)
        have hW3 : T3 + 1 + 1 ≤ W3.heap.size := by have := hT3.fr.size; omega
        have hW3b : W.heap.size < W3.heap.size := by rw [hs3]; simp
        have c0 : W3.cell? ⟨W.heap.size, 0, none⟩ = some (.int .i64 (x.at_ : Int)) := by simp [World.cell?, hx3]
        have c1 : W3.cell? ⟨W.heap.size, 1, none⟩ = some (.int .i64 (x.len : Int)) := by simp [World.cell?, hx3]
        have c2 : W3.cell? ⟨W.heap.size, 2, none⟩ = some (.int .i64 (x.frm : Int)) := by simp [World.cell?, hx3]
        have c3 : W3.cell? ⟨W.heap.size, 3, none⟩ = some (.int .i64 (x.to_ : Int)) := by simp [World.cell?, hx3]
        have c4 : W3.cell? ⟨W.heap.size, 4, none⟩ = some (.int .i64 (x.cells : Int)) := by simp [World.cell?, hx3]
        have ck := (cell_of_block hT3.box).1
        have cw := (cell_of_block E3.want).1
        obtain ⟨a0, a1, a2, a3, a4⟩ := (E3.rows g rfl).2 pre.length x hxk
        have he := fun w => eq_cellsC x x w
        rw [decide_eq_true rfl] at he
        unfold encC at he
        have HT3 := Lib.hid hT3
        clear hT hf3 hs3 hx3 hT3 E3 hxk
        obtain ⟨X1, f1, hfb1, hfs1⟩ := aboves W3
        obtain ⟨x01, hx01⟩ := hfs1 W3.drew (Below.refl _ _).drew
        have : Nonempty X1 := ⟨x01⟩
        have Q1 : ∀ q a v, W3.cell? a = some v → (f1 q).cell? a = some v := fun q a v hc => (World.cell?_of_block ((hfb1 q).block _ (World.block_lt_of_cell? W3 _ hc))).trans hc
        have q01 := fun q => Q1 q _ _ ck
        have q11 := fun q => Q1 q _ _ cw
        have qa01 := fun q => Q1 q _ _ a0
        have qa11 := fun q => Q1 q _ _ a1
        have qa21 := fun q => Q1 q _ _ a2
        have qa31 := fun q => Q1 q _ _ a3
        have qa41 := fun q => Q1 q _ _ a4
        have qc01 := fun q => Q1 q _ _ c0
        have qc11 := fun q => Q1 q _ _ c1
        have qc21 := fun q => Q1 q _ _ c2
        have qc31 := fun q => Q1 q _ _ c3
        have qc41 := fun q => Q1 q _ _ c4
        have AS1 : Hid (∀ q, Calls Try.prog 24 #[encC x] (f1 q) fun e w'' => e = .returned (encC x) ∧ ∃ y, w'' = f1 y) := Lib.hid (fun q => (as_any x (f1 q)).mono fun e w'' ⟨h1, h2⟩ => ⟨h1, hfs1 w'' ((hfb1 q).trans (h2.mono (hfb1 q).size))⟩)
        unfold encC at AS1
        gi_wp2
        refine wpIn_region_held_lit f1 ⟨x01, hx01⟩ (by kernel_rfl) (by kernel_rfl) (by kernel_rfl) ?_
        repeat (first | go_big_quiet_step ((go_at_call 24; exact AS1.out _)) | quiet_step ((go_at_call 24; exact AS1.out _)))
        refine wpQuiet_nil ?_
        rintro _ ⟨nq, rfl⟩
        have hY := hfb1 nq
        generalize f1 nq = Y at *
        have hTY := HT3.out.to (by omega) (Fr.of_below (S := fun i => i < W3.heap.size) hY (fun i h _ => h)) (fun i hi => by omega)
        have EY := EN1.out.to hTY.fr (fun i hi => by omega)
        have ck := (cell_of_block hTY.box).1
        have fk := (cell_of_block hTY.box).2
        have ctt := (cell_of_block (hTY.old hTt (by omega) (by omega))).1
        have cst := (cell_of_block EY.stop).1
        have csq := (cell_of_block EY.seq).1
        have HTY := Lib.hid hTY
        have FINW : Hid (∀ Z, Fr (fun i => i < T3 + 1 + 1 ∨ (V2.heap.size ≤ i ∧ i < V2.heap.size + 2 + 6)) W3 Z → Ct V2 (T3 + 1 + 1) (T3 + 1) pre.length Z → Fr (fun k => k = B + 1 ∨ (V2.heap.size ≤ k ∧ k < V2.heap.size + 2 + 6)) W3 (Z.setCell ⟨T3 + 1, 0, none⟩ (.int .i64 ((pre.length : Int) + 1))) ∧ Ct V2 (T3 + 1 + 1) (T3 + 1) (pre ++ [x]).length (Z.setCell ⟨T3 + 1, 0, none⟩ (.int .i64 ((pre.length : Int) + 1)))) :=
          Lib.hid (fun Z hZ hc => ⟨(hZ.mono (fun k _ h => by omega)).setCell _ _ (fun _ h => by simp at h; omega), by rw [List.length_append]; exact hc.set _⟩)
        clear hTY EY
        have hF := FINW.out Y (Fr.of_below (S := fun i => i < T3 + 1 + 1 ∨ (V2.heap.size ≤ i ∧ i < V2.heap.size + 2 + 6)) hY (fun i h _ => h)) HTY.out
        have HF := Lib.hid hF
        clear hF FINW HTY HT3
        gi_wp2
        first | exact HF.out | (have h := HF.out; rw [hv2] at h; exact h)
      case fin =>
        rintro W hT hD
        have E2 := EN1.out.to hT.fr (fun i hi => by omega)
        have ck := (cell_of_block hT.box).1
        have ctt := (cell_of_block (hT.old hTt (by omega) (by omega))).1
        have cw := (cell_of_block E2.want).1
        have csq := (cell_of_block E2.seq).1
        have hd0 : W.heap[B + 4 + 1]? = some (.deferred (some [])) := hT.old hd0 (by omega) (by omega)
        have hd1 : W.heap[T2 + 1 + 1]? = some (.deferred (some [])) := hT.old hd1 (by omega) (by omega)
        rw [hv2] at hD
        have hWs := hT.fr.size
        have cres := (cell_of_block E2.res).1
        have fres := (cell_of_block E2.res).2
        have EE := Lib.hid E2
        have hDl := (Array.getElem?_eq_some_iff.1 hD).1
        have hq4 : w.heap.size + 1 < W.heap.size := by omega
        have cres2 : (W.alloc (.cells #[.int .i64 3] 3)).cell? ⟨w.heap.size + 1, 0, none⟩ = some (.bool false) := (World.cell?_of_block (Below.heap_alloc _ _ _ (by simp; omega))).trans cres
        have fres2 : (W.alloc (.cells #[.int .i64 3] 3)).frozen? ⟨w.heap.size + 1, 0, none⟩ = false := (World.frozen?_of_block (Below.heap_alloc _ _ _ (by simp; omega))).trans fres
        clear E2 hT
        go_wp2
        rw [rounds_succ]
        go_wp2
        have zf : ∀ i, i < W.heap.size → i ≠ w.heap.size + 1 → ((W.setCell ⟨w.heap.size + 1, 0, none⟩ (.bool true)).alloc (.cells #[.int .i64 3] 3)).heap[i]? = W.heap[i]? := fun i h1 h2 => (Below.heap_alloc _ _ _ (by simpa [World.setCell] using h1)).trans (Below.heap_setCell _ _ _ _ (by simpa using h2))
        have d2 := (zf _ (by omega) (by omega)).trans hD
        have d1 := (zf _ (by omega) (by omega)).trans hd1
        have d0 := (zf _ (by omega) (by omega)).trans hd0
        rw [← hv2] at d2
        rw [← hv1] at d1
        rw [← hv0] at d0
        refine ⟨by simp, .inl ⟨_, _, rfl, run_takeDeferred d2, by simp, .inl ⟨_, _, rfl, run_takeDeferred ((World.putObj_heap_other (by omega)).trans d1), by simp, .inl ⟨_, _, rfl, run_takeDeferred ((World.putObj_heap_other (by omega)).trans ((World.putObj_heap_other (by omega)).trans d0)), ?_⟩⟩⟩⟩
        have hB := EE.out.below
        have hres : ((W.setCell ⟨w.heap.size + 1, 0, none⟩ (.bool true)).alloc (.cells #[.int .i64 3] 3)).heap[w.heap.size + 1]? = some (.cells #[.bool true] 4 (0, 0)) := (Below.heap_alloc _ _ _ (by simpa [World.setCell] using hq4)).trans (heap_setCell_same EE.out.res _)
        have hres3 := (cell_of_block ((World.putObj_heap_other (o := Obj.deferred none) (show w.heap.size + 1 ≠ V0.heap.size by omega)).trans ((World.putObj_heap_other (o := Obj.deferred none) (show w.heap.size + 1 ≠ V1.heap.size by omega)).trans ((World.putObj_heap_other (o := Obj.deferred none) (show w.heap.size + 1 ≠ V2.heap.size by omega)).trans hres)))).1
        refine ⟨.bool true, by simp [results, Try.results11, go_sem, hres3], rfl, ?_⟩
        have k1 : Below w.heap.size w ((W.setCell ⟨w.heap.size + 1, 0, none⟩ (.bool true)).alloc (.cells #[.int .i64 3] 3)) := (hB.setCell (p := ⟨w.heap.size + 1, 0, none⟩) (by simp) _).alloc (by simp [World.setCell]; omega) _
        exact (((Fr.of_below (S := fun k => k < w.heap.size) k1 (fun k _ h => h)).putObj _ _ (fun _ h => by omega)).putObj _ _ (fun _ h => by omega)).putObj _ _ (fun _ h => by omega) |>.toBelow (fun k h => h) (Nat.le_refl _)
end Go.Proofs.Ytcngfcckajpkhaa
