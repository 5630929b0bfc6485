/- The law of sequences: gone over again, within themselves, left early. -/
import Derived.Test.YtokbmihjpllgpaaLawLines
import Derived.Test.YtokbmihjpllgpaaSeamsP
import Derived.Test.YtokbmihjpllgpaaRfB
import Derived.Laws.EntriesVeiled
set_option linter.unusedVariables false
set_option linter.unusedSimpArgs false
namespace Go.Proofs.Ytokbmihjpllgpaa
open Go.RowKit Go.Shelf Go.Lib Go.BigFrame
attribute [local go_sem] Oper.semAt_some

/-- What lies below through all loops: the boxes, the wanted signs. -/
structure Em (w : World) (B : Nat) (s : ByteArray) (stop : Int) (A : Option Addr) (cp : Nat) (l : List U.Sg) (W : World) : Prop where
  below : Below w.heap.size w W
  lt : w.heap.size + 5 ≤ B
  size : B + 1 ≤ W.heap.size
  stop : W.heap[w.heap.size]? = some (.cells #[.int .i64 stop] 3 (0, 0))
  res : W.heap[w.heap.size + 1]? = some (.cells #[.bool false] 4 (0, 0))
  str : W.cell? ⟨w.heap.size + 2, 0, none⟩ = some (.string s)
  seq : W.heap[w.heap.size + 3]? = some (.cells #[.func (.func 65) #[] #[.pointer (some ⟨w.heap.size + 2, 0, none⟩)]] 66 (0, 0))
  str2 : W.cell? ⟨w.heap.size + 4, 0, none⟩ = some (.string s)
  want : W.heap[B]? = some (.cells #[.slice A l.length cp] 24 (0, 0))
  rows : ∀ g, A = some ⟨g, 0, none⟩ → g < B ∧ ∀ k x, l[k]? = some x → W.cell? ⟨g, k * 4, none⟩ = some (.int .i64 (x.at_ : Int)) ∧ W.cell? ⟨g, k * 4 + 1, none⟩ = some (.int .i64 (x.len : Int)) ∧ W.cell? ⟨g, k * 4 + 2, none⟩ = some (.int .i32 (x.rune : Int)) ∧ W.cell? ⟨g, k * 4 + 3, none⟩ = some (.bool x.bad)
theorem Em.to {w : World} {B : Nat} {s : ByteArray} {stop : Int} {A : Option Addr} {cp : Nat} {l : List U.Sg} {W W' : World} {S : Nat → Prop} (h : Em w B s stop A cp l W) (hf : Fr S W W') (hS : ∀ i, i < B + 1 → S i) : Em w B s stop A cp l W' := by
  have hlt := h.lt
  have hsz := h.size
  have bl : ∀ i o, i < B + 1 → W.heap[i]? = some o → W'.heap[i]? = some o := fun i o hi ho => (hf.block i (by omega) (hS i hi)).trans ho
  have ce : ∀ a v, a.block < B + 1 → W.cell? a = some v → W'.cell? a = some v := fun a v ha hv => hf.cell hv (hS _ ha)
  refine ⟨h.below.trans (hf.toBelow (fun k hk => hS k (by omega)) (by omega)), hlt, Nat.le_trans hsz hf.size, bl _ _ (by omega) h.stop, bl _ _ (by omega) h.res, ce _ _ (by simp; omega) h.str, bl _ _ (by omega) h.seq, ce _ _ (by simp; omega) h.str2, bl _ _ (by omega) h.want, fun g hg => ⟨(h.rows g hg).1, fun k x hx => ?_⟩⟩
  have hgB := (h.rows g hg).1
  obtain ⟨a0, a1, a2, a3⟩ := (h.rows g hg).2 k x hx
  exact ⟨ce _ _ (by simp; omega) a0, ce _ _ (by simp; omega) a1, ce _ _ (by simp; omega) a2, ce _ _ (by simp; omega) a3⟩

/-- The result box told, three marks taken away. -/
theorem fin_three {w W : World} {b0 b1 b2 : Nat} (hr : W.heap[w.heap.size + 1]? = some (.cells #[.bool true] 4 (0, 0))) (h0 : w.heap.size + 1 < b0) (h1 : w.heap.size + 1 < b1) (h2 : w.heap.size + 1 < b2) (hB : Below w.heap.size w W) :
    (((W.putObj b2 (.deferred none)).putObj b1 (.deferred none)).putObj b0 (.deferred none)).cell? ⟨w.heap.size + 1, 0, none⟩ = some (.bool true) ∧ Below w.heap.size w (((W.putObj b2 (.deferred none)).putObj b1 (.deferred none)).putObj b0 (.deferred none)) :=
  ⟨(cell_of_block ((World.putObj_heap_other (o := Obj.deferred none) (show w.heap.size + 1 ≠ b0 by omega)).trans ((World.putObj_heap_other (o := Obj.deferred none) (show w.heap.size + 1 ≠ b1 by omega)).trans ((World.putObj_heap_other (o := Obj.deferred none) (show w.heap.size + 1 ≠ b2 by omega)).trans hr)))).1,
   (((Fr.of_below (S := fun k => k < w.heap.size) hB (fun k _ h => h)).putObj _ _ (fun _ h => by omega)).putObj _ _ (fun _ h => by omega)).putObj _ _ (fun _ h => by omega) |>.toBelow (fun k h => h) (Nat.le_refl _)⟩

set_option maxRecDepth 1000000 in
set_option maxHeartbeats 8000000 in
theorem utfSeqs_law (s : ByteArray) (st : Int) (hs : s.size ≤ 1048576) (h1 : (Lit.int .i64 st).wf = true) (w : World) : Calls Try.prog 18 #[.string s, .int .i64 st] w fun e w' => e = .returned (.bool true) ∧ Below w.heap.size w w' := by
  have hnil : ∀ (lb : Array Value) (w : World), (binOp .eql 66 (.func (.func 65) #[] lb) .nilFunc).run Try.prog w = .ok (.bool false) w := fun _ _ => by kernel_rfl
  have hnil2 : ∀ (lb : Array Value) (w : World), (binOp .eql 61 (.func (.func 63) #[] lb) .nilFunc).run Try.prog w = .ok (.bool false) w := fun _ _ => by kernel_rfl
  have hln := U.lns_length s.data.toList _ 0 (Nat.le_refl _)
  rw [Nat.sub_zero, ← U.size_eq] at hln
  have hlen := signs_len_le s
  have AL := fun w => all_any s w (by omega)
  have SI := fun Bn w hB => signs_in s (by omega) Bn w hB
  have LI := fun Bn w hB => lines_in s (by omega) Bn w hB
  obtain ⟨l, hl⟩ : ∃ l, U.signs s.data.toList = l := ⟨_, rfl⟩
  obtain ⟨l2, hl2⟩ : ∃ l, U.lns s.data.toList 0 = l := ⟨_, rfl⟩
  rw [hl] at hlen AL SI
  rw [hl2] at hln LI
  obtain ⟨stop, hst, WI⟩ : ∃ k : Nat, k < l.length + 1 ∧ ∀ w, Calls Try.prog 31 #[.int .i64 st, .int .i64 ((l.length : Int) + 1)] w fun e w' => e = .returned (.int .i64 (k : Int)) ∧ w = w' := by
    have q1 := Int.emod_nonneg st (show ((l.length + 1 : Nat) : Int) ≠ 0 by omega)
    have q2 := Int.emod_lt_of_pos st (show 0 < ((l.length + 1 : Nat) : Int) by omega)
    refine ⟨(st % ((l.length + 1 : Nat) : Int)).toNat, by omega, fun w => ?_⟩
    have := within_any st (l.length + 1) w (by omega) (by omega)
    rw [show (((st % ((l.length + 1 : Nat) : Int)).toNat : Nat) : Int) = st % ((l.length + 1 : Nat) : Int) by omega]
    exact this
  have AL := Lib.hid AL
  have SI := Lib.hid SI
  have LI := Lib.hid LI
  have WI := Lib.hid WI
  have P5 : Hid ((((((w.alloc (.cells #[.int .i64 st] 3)).alloc (.cells #[.bool false] 4)).alloc (.cells #[.string s] 9)).alloc (.cells #[.func (.func 65) #[] #[.pointer (some ⟨w.heap.size + 1 + 1, 0, none⟩)]] 66)).alloc (.cells #[.string s] 9)).heap[w.heap.size + 3]? = some (.cells #[.func (.func 65) #[] #[.pointer (some ⟨w.heap.size + 1 + 1, 0, none⟩)]] 66 (0, 0))) := Lib.hid (by
    refine (Below.heap_alloc _ _ _ (by simp)).trans ?_
    have := World.alloc_heap_new (((w.alloc (.cells #[.int .i64 st] 3)).alloc (.cells #[.bool false] 4)).alloc (.cells #[.string s] 9)) (.cells #[.func (.func 65) #[] #[.pointer (some ⟨w.heap.size + 1 + 1, 0, none⟩)]] 66)
    rw [World.size_alloc, World.size_alloc, World.size_alloc] at this
    exact this)
  have P8 : Hid (∀ (w3 : World) A3 cp3, Below (((((w.alloc (.cells #[.int .i64 st] 3)).alloc (.cells #[.bool false] 4)).alloc (.cells #[.string s] 9)).alloc (.cells #[.func (.func 65) #[] #[.pointer (some ⟨w.heap.size + 1 + 1, 0, none⟩)]] 66)).alloc (.cells #[.string s] 9)).heap.size (((((w.alloc (.cells #[.int .i64 st] 3)).alloc (.cells #[.bool false] 4)).alloc (.cells #[.string s] 9)).alloc (.cells #[.func (.func 65) #[] #[.pointer (some ⟨w.heap.size + 1 + 1, 0, none⟩)]] 66)).alloc (.cells #[.string s] 9)) w3 → w3.heap[w.heap.size]? = some (.cells #[.int .i64 st] 3 (0, 0)) ∧ w3.heap[w.heap.size + 3]? = some (.cells #[.func (.func 65) #[] #[.pointer (some ⟨w.heap.size + 1 + 1, 0, none⟩)]] 66 (0, 0)) ∧ w.heap.size + 5 ≤ w3.heap.size ∧ (((w3.setCell ⟨w.heap.size, 0, none⟩ (.int .i64 (stop : Int))).alloc (.cells #[.slice A3 l.length cp3] 24)).alloc (.cells #[.int .i64 0] 3)).cell? ⟨w.heap.size + 3, 0, none⟩ = some (.func (.func 65) #[] #[.pointer (some ⟨w.heap.size + 1 + 1, 0, none⟩)])) := Lib.hid (by
    intro w3 A3 cp3 hb3
    have hq0 : w3.heap[w.heap.size]? = some (.cells #[.int .i64 st] 3 (0, 0)) := (hb3.block _ (by simp; omega)).trans ((Below.heap_alloc _ _ _ (by simp; omega)).trans ((Below.heap_alloc _ _ _ (by simp; omega)).trans ((Below.heap_alloc _ _ _ (by simp; omega)).trans ((Below.heap_alloc _ _ _ (by simp)).trans (World.alloc_heap_new w _)))))
    have hq5 := (hb3.block _ (by simp)).trans P5.out
    have hq3 : w.heap.size + 5 ≤ w3.heap.size := by have := hb3.size; simp at this; omega
    refine ⟨hq0, hq5, hq3, ?_⟩
    have hq9 : w.heap.size + 3 < (w3.setCell ⟨w.heap.size, 0, none⟩ (.int .i64 (stop : Int))).heap.size := by simp [World.setCell]; omega
    exact (World.cell?_of_block ((Below.heap_alloc _ _ _ (by rw [World.size_alloc]; simp only; omega)).trans ((Below.heap_alloc _ _ _ hq9).trans (Below.heap_setCell _ _ _ _ (by simp))))).trans (cell_of_block hq5).1)
  clear hl hl2 h1
  refine (callsIn_wide (n := 0)).1 (callsIn_of_wp_marks Try.func18 rfl trivial (wpIn_wide.2 ?_) rfl)
  simp only [Try.ntmps18, List.size_toArray, List.length_cons, List.length_nil, Nat.reduceAdd, Nat.reduceSub, Array.replicate_succ, Array.replicate_zero, List.push_toArray, List.append_toArray, List.nil_append, List.cons_append]
  go_wp2_with (first
    | (go_at_call 49; ((with_reducible refine (signs_call s _).mono ?_); rintro e w1 ⟨rfl, rfl⟩))
    | (go_at_call 48; ((with_reducible refine (lines_call s _).mono ?_); rintro e w2 ⟨rfl, rfl⟩))
    | (go_at_call 21; ((with_reducible refine (AL.out _).mono ?_); rintro e w3 ⟨v3, rfl, hb3, hr3⟩; obtain ⟨A3, cp3, rfl, hA3⟩ := own_form hr3; obtain ⟨hq0, hq5, hq3, hq8⟩ := P8.out w3 A3 cp3 hb3; have hq1 := (cell_of_block hq0).1; have hq2 := (cell_of_block hq0).2; have hq7 := (cell_of_block hq5).1; have hq4 : w.heap.size < w3.heap.size := Nat.lt_of_lt_of_le (Nat.lt_add_of_pos_right (by decide)) hq3; have hq6 : w.heap.size + 3 < w3.heap.size := Nat.lt_of_lt_of_le (Nat.add_lt_add_left (by decide) _) hq3))
    | (go_at_call 31; ((with_reducible refine (WI.out _).mono ?_); rintro e w4 ⟨rfl, rfl⟩)))
  obtain ⟨B, hBz⟩ : ∃ B, w3.heap.size = B := ⟨_, rfl⟩
  rw [hBz]
  refine at_world fun W0 hW0 => ?_
  have EM : Em w B s stop A3 cp3 l W0 ∧ W0.heap[B + 1]? = some (.cells #[.int .i64 0] 3 (0, 0)) ∧ W0.heap.size = B + 2 := by
    have hz : W0.heap.size = B + 2 := by rw [← hW0]; simp [World.setCell]; omega
    have k0 : Below w.heap.size w w3 := (((((((Below.refl _ _).alloc (Nat.le_refl _) _).alloc (by simp) _).alloc (by simp; omega) _).alloc (by simp; omega) _).alloc (by simp; omega) _)).trans (hb3.mono (by simp; omega))
    have kf : Fr (fun i => i ≠ w.heap.size ∧ i < B) w3 W0 := by rw [← hW0]; exact (((Fr.refl _ _).setCell _ _ (fun _ h => h.1 rfl)).alloc _).alloc _
    have k2 : ∀ i o, i < B → i ≠ w.heap.size → w3.heap[i]? = some o → W0.heap[i]? = some o := fun i o hi hn ho => (kf.block i (by omega) ⟨hn, hi⟩).trans ho
    have sz : (w3.setCell ⟨w.heap.size, 0, none⟩ (.int .i64 (stop : Int))).heap.size = B := by simp [World.setCell]; omega
    have o1 := World.alloc_heap_new (w.alloc (.cells #[.int .i64 st] 3)) (.cells #[.bool false] 4)
    rw [World.size_alloc] at o1
    have o2 := (cell_new ((w.alloc (.cells #[.int .i64 st] 3)).alloc (.cells #[.bool false] 4)) (.string s) 9).1
    rw [World.size_alloc, World.size_alloc] at o2
    have o4 := (cell_new ((((w.alloc (.cells #[.int .i64 st] 3)).alloc (.cells #[.bool false] 4)).alloc (.cells #[.string s] 9)).alloc (.cells #[.func (.func 65) #[] #[.pointer (some ⟨w.heap.size + 1 + 1, 0, none⟩)]] 66)) (.string s) 9).1
    rw [World.size_alloc, World.size_alloc, World.size_alloc, World.size_alloc] at o4
    refine ⟨⟨k0.trans (kf.toBelow (fun k hk => by omega) (by omega)), by omega, by omega, ?_, ?_, ?_, ?_, ?_, ?_, fun g hg => ⟨?_, fun k x hx => ?_⟩⟩, ?_, hz⟩
    · rw [← hW0]
      exact (Below.heap_alloc _ _ _ (by simp [World.setCell]; omega)).trans ((Below.heap_alloc _ _ _ (by omega)).trans (heap_setCell_same hq0 _))
    · exact k2 _ _ (by omega) (by omega) ((hb3.block _ (by simp)).trans ((Below.heap_alloc _ _ _ (by simp)).trans ((Below.heap_alloc _ _ _ (by simp)).trans ((Below.heap_alloc _ _ _ (by simp)).trans o1))))
    · refine kf.cell ((World.cell?_of_block (hb3.block _ (by simp))).trans ((World.cell?_of_block (Below.heap_alloc _ _ _ (by simp))).trans ((World.cell?_of_block (Below.heap_alloc _ _ _ (by simp))).trans o2))) (by simp; omega)
    · exact k2 _ _ (by omega) (by omega) hq5
    · refine kf.cell ((World.cell?_of_block (hb3.block _ (by simp))).trans o4) (by simp; omega)
    · rw [← hW0, ← hBz]
      have := World.alloc_heap_new (w3.setCell ⟨w.heap.size, 0, none⟩ (.int .i64 (stop : Int))) (.cells #[.slice A3 l.length cp3] 24)
      rw [sz] at this
      rw [hBz]
      exact (Below.heap_alloc _ _ _ (by rw [World.size_alloc, sz]; omega)).trans this
    · subst hg; have := (hr3.lt g rfl).2; omega
    · subst hg
      have hg1 := hr3.lt g rfl
      obtain ⟨b0, b1, b2, b3⟩ := cellsS_at hr3 hx
      have hgn : g ≠ w.heap.size := by have := hg1.1; simp at this; omega
      exact ⟨kf.cell b0 (by simp; omega), kf.cell b1 (by simp; omega), kf.cell b2 (by simp; omega), kf.cell b3 (by simp; omega)⟩
    · rw [← hW0]
      have := World.alloc_heap_new ((w3.setCell ⟨w.heap.size, 0, none⟩ (.int .i64 (stop : Int))).alloc (.cells #[.slice A3 l.length cp3] 24)) (.cells #[.int .i64 0] 3)
      rw [World.size_alloc, sz] at this
      exact this
  obtain ⟨EM, hN0, hz0⟩ := EM
  clear hW0 hb3 hr3 hq0 hq1 hq2 hq3 hq4 hq5 hq6 hq7 hq8 hBz P8 P5
  have hwB : w.heap.size + 5 ≤ B := EM.lt
  obtain ⟨z, hz⟩ : ∃ z : Int, (stop : Int) = z := ⟨_, rfl⟩
  rw [hz] at EM
  have hz1 : 0 ≤ z := by omega
  have hz2 : z ≤ l.length := by omega
  have EM := Lib.hid EM
  clear hz hst
  have hszl : l.length ≤ 4194304 := by omega
  have hszl2 : l2.length ≤ 4194304 := by omega
  clear hlen hln hs
  refine wp_rf W0 rfl enters_signs (SI.out (w.heap.size + 1 + 1) W0 EM.out.str) (Fr.refl _ _) (fun k h => by omega) (fun _ => rfl)
    (fun pre W => Ct W0 (B + 2) (B + 1) pre.length W) (fun _ _ _ => False) ?hI (fun _ _ _ _ _ h => h) ⟨Fr.refl _ _, hN0⟩ ?round ?fin (fun c pre W _ _ h => h.elim)
  case hI => intro pre A D hf h; exact h.to (by omega) hf (fun i hi => by omega)
  case round =>
    rintro pre x post W hx hsz hT
    have hpl : pre.length < l.length := by rw [hx]; simp
    have hxk : l[pre.length]? = some x := by rw [hx]; simp
    obtain ⟨g, rfl⟩ := hA3 (by omega)
    clear hx
    unfold encS
    gi_wp2
    refine ⟨(Fr.refl _ _).alloc _, fun W3 hf3 hs3 hr3 => ?_⟩
    have hx3 : W3.heap[W.heap.size]? = some (.cells #[.int .i64 (x.at_ : Int), .int .i64 (x.len : Int), .int .i32 (x.rune : Int), .bool x.bad] 40 (0, 0)) := rx_new hf3 (by omega)
    have hT3 := (hT.to (by omega) ((Fr.refl (fun _ => True) W).alloc (.cells #[.int .i64 (x.at_ : Int), .int .i64 (x.len : Int), .int .i32 (x.rune : Int), .bool x.bad] 40)) (fun _ _ => trivial)).to (by omega) hf3 (fun i hi => by omega)
    have E3 := EM.out.to hT3.fr (fun i hi => by omega)
    have hW3 : B + 2 ≤ W3.heap.size := by have := hT3.fr.size; omega
    have hW3b : W.heap.size < W3.heap.size := by rw [hs3]; simp
    have c0 : W3.cell? ⟨W.heap.size, 0, none⟩ = some (.int .i64 (x.at_ : Int)) := by simp [World.cell?, hx3]
    have c1 : W3.cell? ⟨W.heap.size, 1, none⟩ = some (.int .i64 (x.len : Int)) := by simp [World.cell?, hx3]
    have c2 : W3.cell? ⟨W.heap.size, 2, none⟩ = some (.int .i32 (x.rune : Int)) := by simp [World.cell?, hx3]
    have c3 : W3.cell? ⟨W.heap.size, 3, none⟩ = some (.bool x.bad) := by simp [World.cell?, hx3]
    have ck := (cell_of_block hT3.box).1
    have cw := (cell_of_block E3.want).1
    obtain ⟨a0, a1, a2, a3⟩ := (E3.rows g rfl).2 pre.length x hxk
    have he := fun w => eq_cellsS x x w
    rw [decide_eq_true rfl] at he
    have HT3 := Lib.hid hT3
    clear hT hf3 hs3 hx3 hT3 E3 hxk
    obtain ⟨X1, f1, hfb1, hfs1⟩ := aboves W3
    obtain ⟨x01, hx01⟩ := hfs1 W3.drew (Below.refl _ _).drew
    have : Nonempty X1 := ⟨x01⟩
    have Q1 : ∀ q a v, W3.cell? a = some v → (f1 q).cell? a = some v := fun q a v hc => (World.cell?_of_block ((hfb1 q).block _ (World.block_lt_of_cell? W3 _ hc))).trans hc
    have q01 := fun q => Q1 q _ _ ck
    have q11 := fun q => Q1 q _ _ cw
    have qa01 := fun q => Q1 q _ _ a0
    have qa11 := fun q => Q1 q _ _ a1
    have qa21 := fun q => Q1 q _ _ a2
    have qa31 := fun q => Q1 q _ _ a3
    have qc01 := fun q => Q1 q _ _ c0
    have qc11 := fun q => Q1 q _ _ c1
    have qc21 := fun q => Q1 q _ _ c2
    have qc31 := fun q => Q1 q _ _ c3
    gi_wp2
    refine wpIn_region_held_lit f1 ⟨x01, hx01⟩ (by kernel_rfl) (by kernel_rfl) (by kernel_rfl) ?_
    repeat (first | go_big_quiet_step (fail) | quiet_step (fail))
    refine wpQuiet_nil ?_
    rintro _ ⟨nq, rfl⟩
    have hY := hfb1 nq
    generalize f1 nq = Y at *
    have hTY := HT3.out.to (by omega) (Fr.of_below (S := fun i => i < W3.heap.size) hY (fun i h _ => h)) (fun i hi => by omega)
    have EY := EM.out.to hTY.fr (fun i hi => by omega)
    have ck := (cell_of_block hTY.box).1
    have fk := (cell_of_block hTY.box).2
    have cst := (cell_of_block EY.stop).1
    have csq := (cell_of_block EY.seq).1
    have HTY := Lib.hid hTY
    have FINW : Hid (∀ Z, Fr (fun i => i < B + 2 ∨ (W0.heap.size ≤ i ∧ i < W0.heap.size + 2 + 1)) W3 Z → Ct W0 (B + 2) (B + 1) pre.length Z → Fr (fun k => k = w.heap.size + 1 + 1 ∨ (W0.heap.size ≤ k ∧ k < W0.heap.size + 2 + 1)) W3 (Z.setCell ⟨B + 1, 0, none⟩ (.int .i64 ((pre.length : Int) + 1))) ∧ Ct W0 (B + 2) (B + 1) (pre ++ [x]).length (Z.setCell ⟨B + 1, 0, none⟩ (.int .i64 ((pre.length : Int) + 1)))) :=
      Lib.hid (fun Z hZ hc => ⟨(hZ.mono (fun k _ h => by omega)).setCell _ _ (fun _ h => by simp at h; omega), by rw [List.length_append]; exact hc.set _⟩)
    clear hTY EY
    by_cases hst : (pre.length : Int) = z
    · have csq2 : (Y.alloc (.cells #[.int .i64 0] 3)).cell? ⟨w.heap.size + 3, 0, none⟩ = some (.func (.func 65) #[] #[.pointer (some ⟨w.heap.size + 1 + 1, 0, none⟩)]) := (World.cell?_of_block (Below.heap_alloc _ _ _ (by have := hY.size; simp; omega))).trans csq
      have hq3 : w.heap.size + 3 < Y.heap.size := by have := hY.size; omega
      gi_wp2
      refine at_worldIn fun W4 hW4 => ?_
      obtain ⟨M, hM⟩ : ∃ M, Y.heap.size = M := ⟨_, rfl⟩
      have hYz := hY.size
      have hz4 : W4.heap.size = M + 1 := by rw [← hW4]; simp; omega
      have hf4 : Fr (fun i => i < M) Y W4 := by rw [← hW4]; exact (Fr.refl _ _).alloc _
      have hT4 := HTY.out.to (by omega) hf4 (fun i hi => by omega)
      have EN4 := Lib.hid (EM.out.to hT4.fr (fun i hi => by omega))
      have hMm : W4.heap[M]? = some (.cells #[.int .i64 0] 3 (0, 0)) := by
        have := World.alloc_heap_new Y (.cells #[.int .i64 0] 3)
        rw [hW4, hM] at this
        exact this
      have hl4 : ∃ r, W4.heap[W0.heap.size + 1]? = some (.loop r) := by
        obtain ⟨r, hr⟩ := hr3
        have h1 := (Array.getElem?_eq_some_iff.1 hr).1
        exact ⟨r, (hf4.block _ (by omega) (by omega)).trans ((hY.block _ h1).trans hr)⟩
      rw [hM]
      clear hW4 ck fk cst csq csq2 hq3
      refine wp_rf_in_b W4 hl4 rfl enters_signs (SI.out (w.heap.size + 1 + 1) W4 EN4.out.str) (Fr.refl _ _) (fun k h => by omega) (fun _ => rfl)
        (fun pre W => Ct W4 (M + 1) M pre.length W) 2 (fun _ _ h => h) ?hI2 ⟨Fr.refl _ _, hMm⟩ ?round2 ?fin2
      case hI2 => intro pre A D hf h; exact h.to (by omega) hf (fun i hi => by omega)
      case round2 =>
        clear a0 a1 a2 a3 he
        rintro pre2 x post2 W5 hx2 hsz2 hT5
        have hpl2 : pre2.length < l.length := by rw [hx2]; simp
        have hxk : l[pre2.length]? = some x := by rw [hx2]; simp
        clear hx2
        unfold encS
        gi_wp2
        refine ⟨(Fr.refl _ _).alloc _, fun W3 hf3 hs3 hr3' => ?_⟩
        have hx3 : W3.heap[W5.heap.size]? = some (.cells #[.int .i64 (x.at_ : Int), .int .i64 (x.len : Int), .int .i32 (x.rune : Int), .bool x.bad] 40 (0, 0)) := rx_new hf3 (by omega)
        have hT3 := (hT5.to (by omega) ((Fr.refl (fun _ => True) W5).alloc (.cells #[.int .i64 (x.at_ : Int), .int .i64 (x.len : Int), .int .i32 (x.rune : Int), .bool x.bad] 40)) (fun _ _ => trivial)).to (by omega) hf3 (fun i hi => by omega)
        have E3 := EN4.out.to hT3.fr (fun i hi => by omega)
        have hW3 : M + 1 ≤ W3.heap.size := by have := hT3.fr.size; omega
        have c0 : W3.cell? ⟨W5.heap.size, 0, none⟩ = some (.int .i64 (x.at_ : Int)) := by simp [World.cell?, hx3]
        have c1 : W3.cell? ⟨W5.heap.size, 1, none⟩ = some (.int .i64 (x.len : Int)) := by simp [World.cell?, hx3]
        have c2 : W3.cell? ⟨W5.heap.size, 2, none⟩ = some (.int .i32 (x.rune : Int)) := by simp [World.cell?, hx3]
        have c3 : W3.cell? ⟨W5.heap.size, 3, none⟩ = some (.bool x.bad) := by simp [World.cell?, hx3]
        have ck := (cell_of_block hT3.box).1
        have cw := (cell_of_block E3.want).1
        obtain ⟨a0, a1, a2, a3⟩ := (E3.rows g rfl).2 pre2.length x hxk
        have he := fun w => eq_cellsS x x w
        rw [decide_eq_true rfl] at he
        have HT3 := Lib.hid hT3
        clear hT5 hf3 hs3 hx3 hT3 E3 hxk hr3'
        obtain ⟨X2, f2, hfb2, hfs2⟩ := aboves W3
        obtain ⟨x02, hx02⟩ := hfs2 W3.drew (Below.refl _ _).drew
        have : Nonempty X2 := ⟨x02⟩
        have Q2 : ∀ q a v, W3.cell? a = some v → (f2 q).cell? a = some v := fun q a v hc => (World.cell?_of_block ((hfb2 q).block _ (World.block_lt_of_cell? W3 _ hc))).trans hc
        have q02 := fun q => Q2 q _ _ ck
        have q12 := fun q => Q2 q _ _ cw
        have qa02 := fun q => Q2 q _ _ a0
        have qa12 := fun q => Q2 q _ _ a1
        have qa22 := fun q => Q2 q _ _ a2
        have qa32 := fun q => Q2 q _ _ a3
        have qc02 := fun q => Q2 q _ _ c0
        have qc12 := fun q => Q2 q _ _ c1
        have qc22 := fun q => Q2 q _ _ c2
        have qc32 := fun q => Q2 q _ _ c3
        gi_wp2
        refine wpIn_region_held_lit f2 ⟨x02, hx02⟩ (by kernel_rfl) (by kernel_rfl) (by kernel_rfl) ?_
        repeat (first | go_big_quiet_step (fail) | quiet_step (fail))
        refine wpQuiet_nil ?_
        rintro _ ⟨nq, rfl⟩
        have hY2 := hfb2 nq
        generalize f2 nq = Y2 at *
        have hTY2 := HT3.out.to (by omega) (Fr.of_below (S := fun i => i < W3.heap.size) hY2 (fun i h _ => h)) (fun i hi => by omega)
        have EY := EN4.out.to hTY2.fr (fun i hi => by omega)
        have ck := (cell_of_block hTY2.box).1
        have fk := (cell_of_block hTY2.box).2
        have cst := (cell_of_block EY.stop).1
        have hF : Fr (fun k => k = w.heap.size + 1 + 1 ∨ (W4.heap.size ≤ k ∧ k < W4.heap.size + 1 + 1)) W3 (Y2.setCell ⟨M, 0, none⟩ (.int .i64 ((pre2.length : Int) + 1))) ∧ Ct W4 (M + 1) M (pre2 ++ [x]).length (Y2.setCell ⟨M, 0, none⟩ (.int .i64 ((pre2.length : Int) + 1))) :=
          ⟨(Fr.of_below hY2 (fun i h _ => h)).setCell _ _ (fun _ h => by simp at h; omega), by rw [List.length_append]; exact hTY2.set _⟩
        have HF := Lib.hid hF
        clear hF hTY2 EY HT3
        by_cases hst2 : (pre2.length : Int) + 1 = z
        · gi_wp2
          have h := HF.out
          rw [hst2] at h
          first | exact ⟨h.1, rfl, h.2⟩ | (rw [hz4] at h; exact ⟨h.1, rfl, h.2⟩)
        · gi_wp2
          first | exact HF.out | (have h := HF.out; rw [hz4] at h; exact h)
      case fin2 =>
        rintro pre2 W5 hpx hT5
        have hT6 := hT4.to (by omega) hT5.fr (fun i hi => by omega)
        have hFz : Fr (fun i => i < B + 2 ∨ (W0.heap.size ≤ i ∧ i < W0.heap.size + 2 + 1)) W3 W5 := ((Fr.of_below hY (fun i h _ => h)).trans (hf4.mono (fun i _ h => by omega))).trans (hT5.fr.mono (fun i _ h => by omega))
        have ck := (cell_of_block hT6.box).1
        have fk := (cell_of_block hT6.box).2
        have HF := Lib.hid (FINW.out W5 hFz hT6)
        clear hT6 hFz hT5 hT4 FINW HTY HT3
        gi_wp2
        first | exact HF.out | (have h := HF.out; rw [hst] at h; exact h)
    · have HF := Lib.hid (FINW.out Y (Fr.of_below (S := fun i => i < B + 2 ∨ (W0.heap.size ≤ i ∧ i < W0.heap.size + 2 + 1)) hY (fun i h _ => h)) HTY.out)
      clear FINW HTY HT3
      gi_wp2
      first | exact HF.out | (have h := HF.out; rw [hz0] at h; exact h)
  case fin =>
    rintro W hT hD
    have E2 := EM.out.to hT.fr (fun i hi => by omega)
    have hWs := hT.fr.size
    obtain ⟨T, hTz⟩ : ∃ T, W.heap.size = T := ⟨_, rfl⟩
    have hDl := (Array.getElem?_eq_some_iff.1 hD).1
    have hBT : B + 2 < T := by omega
    have hNb := hT.box
    have EM2 := Lib.hid E2
    clear E2 hT hDl hWs
    go_wp2
    refine at_world fun W1 hW1 => ?_
    have hv1 : W1.heap.size = T + 1 := by rw [← hW1]; simp; omega
    have hf1 : Fr (fun i => i < T) W W1 := by rw [← hW1]; exact (Fr.refl _ _).alloc _
    have EN1 := Lib.hid (EM2.out.to hf1 (fun i hi => by omega))
    have hA1 : W1.heap[T]? = some (.cells #[.int .i64 0] 3 (0, 0)) := by
      have := World.alloc_heap_new W (.cells #[.int .i64 0] 3)
      rw [hW1, hTz] at this
      exact this
    have hN1 := (hf1.block _ (by omega) (by omega)).trans hNb
    have hd0 : W1.heap[W0.heap.size]? = some (.deferred (some [])) := (hf1.block _ (by omega) (by omega)).trans hD
    try rw [hTz]
    clear hW1 hf1 hNb hD hTz EM2 hN0
    refine wp_rf_c W1 rfl enters_lines (LI.out (w.heap.size + 1 + 1 + 1 + 1) W1 EN1.out.str2) (Fr.refl _ _) (fun k h => by omega) (fun _ => rfl)
      (fun pre W => Ct W1 (T + 1) T pre.length W ∧ (pre.length : Int) ≤ z) (fun pre W => Ct W1 (T + 1) T pre.length W ∧ (pre.length : Int) = z + 1) 4 (fun _ _ h => h) ?hIa ?hJa ⟨⟨Fr.refl _ _, hA1⟩, by simpa using hz1⟩ ?rounda ?fina
    case hIa => intro pre A D hf h; exact ⟨h.1.to (by omega) hf (fun i hi => by omega), h.2⟩
    case hJa => intro pre A D hf h; exact ⟨h.1.to (by omega) hf (fun i hi => by omega), h.2⟩
    case rounda =>
      rintro pre x post W5 hx hsz5 ⟨hT5, hle⟩
      have hpl : pre.length < l2.length := by rw [hx]; simp
      clear hx
      unfold encL
      gi_wp2
      refine ⟨Fr.refl _ _, fun W3 hf3 hs3 hr3' => ?_⟩
      have hT3 := hT5.to (by omega) hf3 (fun i hi => by omega)
      have E3 := EN1.out.to hT3.fr (fun i hi => by omega)
      have ck := (cell_of_block hT3.box).1
      have fk := (cell_of_block hT3.box).2
      have cst := (cell_of_block E3.stop).1
      have hF : Fr (fun k => k = w.heap.size + 1 + 1 + 1 + 1 ∨ (W1.heap.size ≤ k ∧ k < W1.heap.size + 2 + 0)) W3 (W3.setCell ⟨T, 0, none⟩ (.int .i64 ((pre.length : Int) + 1))) ∧ Ct W1 (T + 1) T (pre ++ [x]).length (W3.setCell ⟨T, 0, none⟩ (.int .i64 ((pre.length : Int) + 1))) :=
        ⟨(Fr.refl _ _).setCell _ _ (fun _ h => by simp at h; omega), by rw [List.length_append]; exact hT3.set _⟩
      have HF := Lib.hid hF
      have hle2 : ((pre ++ [x]).length : Int) = pre.length + 1 := by simp
      clear hF hT3 hT5 E3 hf3 hs3 hr3'
      by_cases hgt : (pre.length : Int) = z
      · have hgt2 : z < z + 1 := by omega
        gi_wp2
        have h := HF.out
        rw [hgt] at h
        first | exact ⟨h.1, rfl, h.2, by omega⟩ | (rw [hv1] at h; exact ⟨h.1, rfl, h.2, by omega⟩)
      · have hgt2 : ¬ (z < (pre.length : Int) + 1) := by omega
        have hgt3 : ¬ (z ≤ (pre.length : Int)) := by omega
        gi_wp2
        first | exact ⟨HF.out.1, HF.out.2, by omega⟩ | (have h := HF.out; rw [hv1] at h; exact ⟨h.1, h.2, by omega⟩)
    case fina =>
      rintro pre W hpx hcase hD
      have hml : pre.length ≤ l2.length := hpx.length_le
      have hc2 : Ct W1 (T + 1) T pre.length W ∧ (pre.length = l2.length ∨ (pre.length : Int) = z + 1) := by
        rcases hcase with ⟨h1, h2, _⟩ | ⟨h1, h2⟩
        · exact ⟨h2, .inl (by rw [h1])⟩
        · exact ⟨h1, .inr h2⟩
      obtain ⟨hT, hm⟩ := hc2
      clear hcase hpx
      obtain ⟨m, hmm⟩ : ∃ m, pre.length = m := ⟨_, rfl⟩
      rw [hmm] at hT hm hml
      clear hmm
      have E2 := EN1.out.to hT.fr (fun i hi => by omega)
      have hWs := hT.fr.size
      obtain ⟨U, hUz⟩ : ∃ T, W.heap.size = T := ⟨_, rfl⟩
      have hDl := (Array.getElem?_eq_some_iff.1 hD).1
      have hTU : T + 1 < U := by omega
      have hAb := hT.box
      have hN2 := hT.old hN1 (by omega) (by omega)
      have hd0b := hT.old hd0 (by omega) (by omega)
      have EM2 := Lib.hid E2
      clear E2 hT hDl hWs hN1 hd0 hA1
      go_wp2
      refine at_world fun W2 hW2 => ?_
      have hv2 : W2.heap.size = U + 1 := by rw [← hW2]; simp; omega
      have hf2 : Fr (fun i => i < U) W W2 := by rw [← hW2]; exact (Fr.refl _ _).alloc _
      have EN2 := Lib.hid (EM2.out.to hf2 (fun i hi => by omega))
      have hB2 : W2.heap[U]? = some (.cells #[.int .i64 0] 3 (0, 0)) := by
        have := World.alloc_heap_new W (.cells #[.int .i64 0] 3)
        rw [hW2, hUz] at this
        exact this
      have hN3 := (hf2.block _ (by omega) (by omega)).trans hN2
      have hA3b := (hf2.block _ (by omega) (by omega)).trans hAb
      have hd0c := (hf2.block _ (by omega) (by omega)).trans hd0b
      have hd1 := (hf2.block _ (by omega) (by omega)).trans hD
      try rw [hUz]
      clear hW2 hf2 hAb hD hUz EM2 hN2 hd0b
      refine wp_rf W2 rfl enters_lines (LI.out (w.heap.size + 1 + 1 + 1 + 1) W2 EN2.out.str2) (Fr.refl _ _) (fun k h => by omega) (fun _ => rfl)
        (fun pre W => Ct W2 (U + 1) U pre.length W) (fun _ _ _ => False) ?hIb (fun _ _ _ _ _ h => h) ⟨Fr.refl _ _, hB2⟩ ?roundb ?finb (fun c pre W _ _ h => h.elim)
      case hIb => intro pre A D hf h; exact h.to (by omega) hf (fun i hi => by omega)
      case roundb =>
        rintro pre x post W5 hx hsz5 hT5
        have hpl : pre.length < l2.length := by rw [hx]; simp
        clear hx
        unfold encL
        gi_wp2
        refine ⟨Fr.refl _ _, fun W3 hf3 hs3 hr3' => ?_⟩
        have hT3 := hT5.to (by omega) hf3 (fun i hi => by omega)
        have ck := (cell_of_block hT3.box).1
        have fk := (cell_of_block hT3.box).2
        have hF : Fr (fun k => k = w.heap.size + 1 + 1 + 1 + 1 ∨ (W2.heap.size ≤ k ∧ k < W2.heap.size + 2 + 0)) W3 (W3.setCell ⟨U, 0, none⟩ (.int .i64 ((pre.length : Int) + 1))) ∧ Ct W2 (U + 1) U (pre ++ [x]).length (W3.setCell ⟨U, 0, none⟩ (.int .i64 ((pre.length : Int) + 1))) :=
          ⟨(Fr.refl _ _).setCell _ _ (fun _ h => by simp at h; omega), by rw [List.length_append]; exact hT3.set _⟩
        have HF := Lib.hid hF
        clear hF hT3 hT5 hf3 hs3 hr3'
        gi_wp2
        exact HF.out
      case finb =>
        rintro W hT hD
        have E2 := EN2.out.to hT.fr (fun i hi => by omega)
        have hWs := hT.fr.size
        have hDl := (Array.getElem?_eq_some_iff.1 hD).1
        have hd0d := hT.old hd0c (by omega) (by omega)
        have hd1d := hT.old hd1 (by omega) (by omega)
        have cn := (cell_of_block (hT.old hN3 (by omega) (by omega))).1
        have ca := (cell_of_block (hT.old hA3b (by omega) (by omega))).1
        have cb := (cell_of_block hT.box).1
        have cw := (cell_of_block E2.want).1
        have cst := (cell_of_block E2.stop).1
        have EE := Lib.hid E2
        have HD := Lib.hid (And.intro hd0d (And.intro hd1d (And.intro hD (And.intro hWs hDl))))
        clear E2 hT hD hd0d hd1d hd0c hd1 hN3 hA3b hB2 hWs hDl
        have KEY : Hid (m = l2.length ∨ ((m : Int) = z + 1 ∧ z + 1 ≤ (l2.length : Int) ∧ ¬ (z + 1 = (l2.length : Int)))) := Lib.hid (by
          by_cases h : m = l2.length
          · exact .inl h
          · rcases hm with hm | hm
            · exact absurd hm h
            · exact .inr ⟨hm, by omega, by omega⟩)
        clear hm hml
        rcases KEY.out with he | ⟨he, hk1, hk2⟩
        · rw [he] at ca
          clear KEY he
          go_wp2_with (go_at_call 19; refine (head_any _).mono ?_; rintro e w' ⟨rfl, hb⟩; have hEr := Lib.hid ((hb.block _ (World.block_lt_of_cell? _ _ (cell_of_block EE.out.res).1)).trans EE.out.res); have cr' := (cell_of_block hEr.out).1; have fr' := (cell_of_block hEr.out).2)
          obtain ⟨hd0d, hd1d, hDD, hWs, hDl⟩ := HD.out
          have hEE := EE.out.below
          have hl0 := (Array.getElem?_eq_some_iff.1 hd0d).1
          have hl1 := (Array.getElem?_eq_some_iff.1 hd1d).1
          have zf : ∀ i o, W.heap[i]? = some o → i ≠ w.heap.size + 1 → (w'.setCell ⟨w.heap.size + 1, 0, none⟩ (.bool true)).heap[i]? = some o := fun i o h1 h => (Below.heap_setCell _ _ _ _ (by simpa using h)).trans ((hb.block _ (Array.getElem?_eq_some_iff.1 h1).1).trans h1)
          have d2 := zf _ _ hDD (by omega)
          have d1 := zf _ _ hd1d (by omega)
          have d0 := zf _ _ hd0d (by omega)
          have d2' := d2
          have d1' := d1
          have d0' := d0
          rw [hv2] at d2'
          rw [hv1] at d1'
          rw [hz0] at d0'
          have hws := hb.size
          refine ⟨by simp, .inl ⟨_, _, rfl, (by first | exact run_takeDeferred d2 | exact run_takeDeferred d2'), by simp, .inl ⟨_, _, rfl, (by first | exact run_takeDeferred ((World.putObj_heap_other (by omega)).trans d1) | exact run_takeDeferred ((World.putObj_heap_other (by omega)).trans d1')), by simp, .inl ⟨_, _, rfl, (by first | exact run_takeDeferred ((World.putObj_heap_other (by omega)).trans ((World.putObj_heap_other (by omega)).trans d0)) | exact run_takeDeferred ((World.putObj_heap_other (by omega)).trans ((World.putObj_heap_other (by omega)).trans d0'))), ?_⟩⟩⟩⟩
          have hres := heap_setCell_same hEr.out (.bool true)
          obtain ⟨fr1, fr2⟩ := fin_three (b0 := B + 2) (b1 := T + 1) (b2 := U + 1) hres (by omega) (by omega) (by omega) ((hEE.trans (hb.mono (by omega))).setCell (p := ⟨w.heap.size + 1, 0, none⟩) (by simp) _)
          exact ⟨.bool true, by simp [results, Try.results18, go_sem, fr1], rfl, fr2⟩
        · rw [he] at ca
          clear KEY he
          go_wp2_with (go_at_call 19; refine (head_any _).mono ?_; rintro e w' ⟨rfl, hb⟩; have hEr := Lib.hid ((hb.block _ (World.block_lt_of_cell? _ _ (cell_of_block EE.out.res).1)).trans EE.out.res); have cr' := (cell_of_block hEr.out).1; have fr' := (cell_of_block hEr.out).2)
          obtain ⟨hd0d, hd1d, hDD, hWs, hDl⟩ := HD.out
          have hEE := EE.out.below
          have hl0 := (Array.getElem?_eq_some_iff.1 hd0d).1
          have hl1 := (Array.getElem?_eq_some_iff.1 hd1d).1
          have zf : ∀ i o, W.heap[i]? = some o → i ≠ w.heap.size + 1 → (w'.setCell ⟨w.heap.size + 1, 0, none⟩ (.bool true)).heap[i]? = some o := fun i o h1 h => (Below.heap_setCell _ _ _ _ (by simpa using h)).trans ((hb.block _ (Array.getElem?_eq_some_iff.1 h1).1).trans h1)
          have d2 := zf _ _ hDD (by omega)
          have d1 := zf _ _ hd1d (by omega)
          have d0 := zf _ _ hd0d (by omega)
          have d2' := d2
          have d1' := d1
          have d0' := d0
          rw [hv2] at d2'
          rw [hv1] at d1'
          rw [hz0] at d0'
          have hws := hb.size
          refine ⟨by simp, .inl ⟨_, _, rfl, (by first | exact run_takeDeferred d2 | exact run_takeDeferred d2'), by simp, .inl ⟨_, _, rfl, (by first | exact run_takeDeferred ((World.putObj_heap_other (by omega)).trans d1) | exact run_takeDeferred ((World.putObj_heap_other (by omega)).trans d1')), by simp, .inl ⟨_, _, rfl, (by first | exact run_takeDeferred ((World.putObj_heap_other (by omega)).trans ((World.putObj_heap_other (by omega)).trans d0)) | exact run_takeDeferred ((World.putObj_heap_other (by omega)).trans ((World.putObj_heap_other (by omega)).trans d0'))), ?_⟩⟩⟩⟩
          have hres := heap_setCell_same hEr.out (.bool true)
          obtain ⟨fr1, fr2⟩ := fin_three (b0 := B + 2) (b1 := T + 1) (b2 := U + 1) hres (by omega) (by omega) (by omega) ((hEE.trans (hb.mono (by omega))).setCell (p := ⟨w.heap.size + 1, 0, none⟩) (by simp) _)
          exact ⟨.bool true, by simp [results, Try.results18, go_sem, fr1], rfl, fr2⟩
end Go.Proofs.Ytokbmihjpllgpaa
