/- Pieces: End, Held; '[]byte(s)'; runes as a row of one's own; rows written cell by cell. -/
import Derived.Test.YtokbmihjpllgpaaDoorFeed
import Derived.Test.YtokbmihjpllgpaaDoorRepair
set_option linter.unusedVariables false
set_option linter.unusedSimpArgs false
namespace Go.Proofs.YtokbmihjpllgpaaDoor
open Go.RowKit Go.Shelf Go.Lib Go.BigFrame
attribute [local go_sem] Oper.semAt_some

set_option maxRecDepth 1000000 in
theorem endU_any (p : Nat) (l : List UInt8) (w : World) (hP : Pc w p l) :
    Calls Tryd.prog 10 #[.pointer (some ⟨p, 0, none⟩)] w fun e w' => e = .returned (.string ⟨l.toArray⟩) ∧ Fr (fun k => k ≠ p) w w' ∧ Pc w' p [] := by
  obtain ⟨hv, hbox, hH⟩ := hP
  obtain ⟨ao, c, rfl, hlc, _⟩ := hH.form
  have cp := (cell_of_block hbox).1
  have fp := (cell_of_block hbox).2
  have cv := conv_bsl hH
  obtain ⟨R, hR⟩ : ∃ R, (⟨l.toArray⟩ : ByteArray) = R := ⟨_, rfl⟩
  rw [hR] at cv ⊢
  have HB := Lib.hid hbox
  clear hbox hH hR
  go_enter Tryd.func10, Tryd.ntmps10
  go_wp2
  go_ret
  exact ⟨rfl, (Fr.refl _ _).setCell _ _ (fun _ h => h rfl), _, heap_setCell_same HB.out _, .inl ⟨rfl, rfl⟩⟩
set_option maxRecDepth 1000000 in
theorem heldU_any (p : Nat) (l : List UInt8) (w : World) (hP : Pc w p l) :
    Calls Tryd.prog 9 #[.pointer (some ⟨p, 0, none⟩)] w fun e w' => e = .returned (.int .i64 (l.length : Int)) ∧ w = w' := by
  obtain ⟨hv, hbox, hH⟩ := hP
  obtain ⟨ao, c, rfl, hlc, _⟩ := hH.form
  have cp := (cell_of_block hbox).1
  clear hbox hH
  go_enter Tryd.func9, Tryd.ntmps9
  go_wp2
  go_ret
  exact ⟨rfl, rfl⟩
theorem newPieces_pc (w : World) : Pc (w.alloc (.cells #[.slice none 0 0] 51)) w.heap.size [] := ⟨_, World.alloc_heap_new w _, .inl ⟨rfl, rfl⟩⟩
theorem Pc.lt {w : World} {p : Nat} {l : List UInt8} (h : Pc w p l) : p < w.heap.size := by obtain ⟨_, h, _⟩ := h; exact (Array.getElem?_eq_some_iff.1 h).1
/-- A Pieces stays as it was where another box is turned. -/
theorem Pc.fr {w w' : World} {p q : Nat} {l : List UInt8} {hq : Value} (h : Pc w p l) (hf : Fr (fun k => k ≠ q) w w') (hpq : p ≠ q) (hbox : w.heap[q]? = some (.cells #[hq] 51 (0, 0))) (hsl : ∃ ao n c, hq = .slice ao n c) : Pc w' p l := by
  obtain ⟨hv, hb, hB⟩ := h
  obtain ⟨ao, n, c, rfl⟩ := hsl
  refine ⟨hv, (hf.block _ (Array.getElem?_eq_some_iff.1 hb).1 hpq).trans hb, ?_⟩
  rcases hB with h | ⟨g, o, d, rfl, hle, hA⟩
  · exact .inl h
  · exact .inr ⟨g, o, d, rfl, hle, hA.fr hf (fun hl => byAt_ne hA hl hbox)⟩
theorem Pc.other {w w' : World} {p q : Nat} {l m : List UInt8} (h : Pc w p l) (hf : Fr (fun k => k ≠ q) w w') (hpq : p ≠ q) (hq : Pc w q m) : Pc w' p l := by
  obtain ⟨hv, hb, hB⟩ := hq
  obtain ⟨ao, c, rfl, _⟩ := hB.form
  exact h.fr hf hpq hb ⟨_, _, _, rfl⟩
theorem Pc.below {w w' : World} {p : Nat} {l : List UInt8} (h : Pc w p l) (hb : Below w.heap.size w w') : Pc w' p l := by
  have hl := h.lt
  obtain ⟨hv, h1, h2⟩ := h
  exact ⟨hv, (hb.block _ hl).trans h1, h2.below hb⟩

/-- '[]byte(s)'. -/
theorem bytes_conv (s : ByteArray) (w : World) : ∃ v w', (convert 9 27 (.string s)).run Tryd.prog w = .ok v w' ∧ Below w.heap.size w w' ∧ Bsl w' v s.data.toList := by
  refine ⟨_, _, Lib.run_convert_string_bytes w 9 27 5 s Tryd.underlying9 Tryd.underlying27 Tryd.underlying5, ⟨rfl, rfl, rfl, by rw [Lib.bytesWorld_size]; omega, fun i hi => Lib.bytesWorld_at_old w _ s i hi⟩, .inr ⟨w.heap.size, 0, grownCap w s.size 0 5, ?_, ?_, fun j b hj => ?_⟩⟩
  · rw [← U.size_eq]
  · rw [← U.size_eq]; exact grownCap_ge w s.size 0 _
  · rw [Nat.zero_add]
    have hj' := (List.getElem?_eq_some_iff.1 hj).1
    have := bytesAt_new w 5 s j hj'
    rw [this]
    congr 2
    unfold U.by_
    simp [hj]
/-- Runes, as a row of one's own. -/
theorem runes_own (s : ByteArray) (w : World) (hs : s.size ≤ 4194304) :
    Calls Tryd.prog 17 #[.string s] w fun e w' => ∃ cap, e = .returned (.slice (some ⟨w.heap.size, 0, none⟩) (runesL s.data.toList).length cap) ∧ Below w.heap.size w w' ∧ w'.ownsRow w.heap.size 21 1 (.slice (some ⟨w.heap.size, 0, none⟩) (runesL s.data.toList).length cap) (runesL s.data.toList).length ((runesL s.data.toList).map (Value.int .i32)) := by
  have he := runesFrom_eq s s.size 0 #[] (by omega)
  rw [List.drop_zero] at he
  have hsz : (Conv.runesFrom s s.size 0 #[]).size = (runesL s.data.toList).length := by rw [he]; simp [runesL]
  have hle : (runesL s.data.toList).length ≤ 4194304 := by rw [runesL_len]; have := toks_len (s := s); omega
  have hr := Go.run_runes_of_string (P := Tryd.prog) w 9 44 21 s Tryd.underlying9 Tryd.underlying44 Tryd.underlying21 (by rw [hsz]; omega)
  rw [hsz] at hr
  have hge := grownCap_ge w (runesL s.data.toList).length 0 21
  have hown : (w.drew.alloc (.cells (Conv.runesFrom s s.size 0 #[] ++ Array.replicate (grownCap w (runesL s.data.toList).length 0 21 - (runesL s.data.toList).length) (.int .i32 0)) 21)).ownsRow w.heap.size 21 1 (.slice (some ⟨w.heap.size, 0, none⟩) (runesL s.data.toList).length (grownCap w (runesL s.data.toList).length 0 21)) (runesL s.data.toList).length ((runesL s.data.toList).map (Value.int .i32)) := by
    refine ⟨by simp, .inr ⟨w.heap.size, _, _, rfl, Nat.le_refl _, World.alloc_heap_new w.drew _, hge, grownCap_le_maxLen w _ 0 _ (by simp only [maxLen]; omega), ?_, ?_⟩⟩
    · rw [Array.size_append, hsz]; simp; omega
    · rw [Array.toList_append, List.take_append_of_le_length (by simp [hsz]), List.take_of_length_le (by simp [hsz]), he]
      simp [runesL]
  have hb : Below w.heap.size w (w.drew.alloc (.cells (Conv.runesFrom s s.size 0 #[] ++ Array.replicate (grownCap w (runesL s.data.toList).length 0 21 - (runesL s.data.toList).length) (.int .i32 0)) 21)) := ((Below.refl _ _).drew).alloc (Nat.le_refl _) _
  obtain ⟨W1, hW1⟩ : ∃ W1, w.drew.alloc (.cells (Conv.runesFrom s s.size 0 #[] ++ Array.replicate (grownCap w (runesL s.data.toList).length 0 21 - (runesL s.data.toList).length) (.int .i32 0)) 21) = W1 := ⟨_, rfl⟩
  rw [hW1] at hr hown hb
  obtain ⟨cap, hcap⟩ : ∃ c, grownCap w (runesL s.data.toList).length 0 21 = c := ⟨_, rfl⟩
  rw [hcap] at hr hown
  obtain ⟨l, hl⟩ : ∃ l, runesL s.data.toList = l := ⟨_, rfl⟩
  rw [hl] at hr hown ⊢
  have HO := Lib.hid hown
  have HB := Lib.hid hb
  clear hl hown hb hW1 hcap he hsz hge hle
  go_enter Tryd.func17, Tryd.ntmps17
  go_wp2
  go_ret
  exact ⟨cap, rfl, HB.out, HO.out⟩

/-- A cell of a row written: the row is as long as it was, and may be written. -/
theorem heap_setCell_row {W : World} {g k : Nat} {cur : Array Value} {t : TypeId} {fr : Nat × Nat} {v : Value} (h : W.heap[g]? = some (.cells cur t fr)) : (W.setCell ⟨g, k, none⟩ v).heap[g]? = some (.cells (cur.setIfInBounds k v) t fr) := by
  show (W.heap.modify g _)[g]? = _
  rw [Array.getElem?_modify, if_pos rfl, h]
  rfl
end Go.Proofs.YtokbmihjpllgpaaDoor
