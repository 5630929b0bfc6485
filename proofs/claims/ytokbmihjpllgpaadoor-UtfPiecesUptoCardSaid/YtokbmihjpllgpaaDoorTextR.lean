/- The reference's Text, and utf.Runes, utf.Text, both Repairs. -/
import Derived.Test.YtokbmihjpllgpaaDoorText
import Derived.Laws.BytesArg
import Derived.Laws.IdiomStrings
set_option linter.unusedVariables false
namespace Go.Proofs.YtokbmihjpllgpaaDoor
open Go.RowKit Go.Shelf Go.Lib Go.BigFrame
attribute [local go_sem] Oper.semAt_some

def runesC (l : List Int) : List Value := l.flatMap Lib.runeCells
theorem runesC_snoc (l : List Int) (x : Int) : runesC (l ++ [x]) = runesC l ++ Lib.runeCells x := by simp [runesC]
theorem runesC_eq (l : List Int) : runesC l = Lib.byteCells (textB l) := by
  induction l with
  | nil => rfl
  | cons x l ih =>
    rw [runesC, List.flatMap_cons, textB, List.flatMap_cons]
    have e : Lib.byteCells (Lib.encodeRune x ++ List.flatMap Lib.encodeRune l) = Lib.byteCells (Lib.encodeRune x) ++ Lib.byteCells (List.flatMap Lib.encodeRune l) := by simp [Lib.byteCells]
    rw [e, Lib.byteCells_encodeRune]
    congr 1
theorem runesC_len (l : List Int) : (runesC l).length ≤ 4 * l.length := by
  induction l with
  | nil => simp [runesC]
  | cons x l ih =>
    have := (Lib.runeCells_le x).2
    rw [runesC] at ih
    rw [runesC, List.flatMap_cons, List.length_append, List.length_cons]
    omega
theorem runesC_one (l : List Int) : ∀ u ∈ runesC l, u.oneCell' = true := by
  intro u hu
  rw [runesC_eq] at hu
  simp [Lib.byteCells] at hu
  obtain ⟨_, _, rfl⟩ := hu
  rfl

/-- 'string(b)' of a row of bytes of one's own. -/
theorem str_of_row (w : World) (base : Nat) (v : Value) (l : List Int) (h : w.ownsRow base 5 1 v (runesC l).length (runesC l)) :
    (convert 27 9 v).run Tryd.prog w = .ok (.string ⟨(textB l).toArray⟩) w := by
  have hl : (runesC l).length = (textB l).length := by rw [runesC_eq, Lib.byteCells_length]
  rcases h.2 with ⟨rfl, h0⟩ | ⟨g, cap, cur, rfl, _⟩
  · have hn : textB l = [] := List.length_eq_zero_iff.1 (by omega)
    rw [hn]
    exact run_convert_bytes_nil w 27 5 Tryd.underlying27 Tryd.underlying5 0 0 9 Tryd.underlying9
  · have hc := fun j u => row_cell h j u
    rw [hl]
    refine run_convert_bytes_back w 27 9 5 ⟨g, 0, none⟩ cap (textB l) Tryd.underlying27 Tryd.underlying5 Tryd.underlying9 (fun j hj => ?_)
    rw [show (⟨g, 0, none⟩ : Addr).add j = ⟨g, j, none⟩ by unfold Addr.add; split <;> simp_all]
    refine hc j _ ?_
    rw [runesC_eq]
    simp [Lib.byteCells, hj]

theorem Tryd.infoU8 : (Tryd.prog.info? 5).map (fun i => (i.zero, i.size, i.bytes)) = some (some (.int .u8 0), 1, 1) := by kernel_rfl

theorem runesL_len (l : List UInt8) : (runesL l).length = (U.toks l).length := by simp [runesL]
theorem runesL_range (l : List UInt8) : ∀ x ∈ runesL l, -2147483648 ≤ x ∧ x ≤ 2147483647 := fun x hx => by
  obtain ⟨t, ht, rfl⟩ := List.mem_map.1 hx
  have := (U.toks_fact l t ht).2.2.1
  omega

/-- '[]rune(s)'. -/
theorem runes_conv (s : ByteArray) (w : World) (hs : s.size ≤ 4194304) : ∃ cap W', (convert 9 44 (.string s)).run Tryd.prog w = .ok (.slice (some ⟨w.heap.size, 0, none⟩) (runesL s.data.toList).length cap) W' ∧
    Below w.heap.size w W' ∧ W'.heap.size = w.heap.size + 1 ∧ RunesAt W' w.heap.size (runesL s.data.toList) := by
  have he := runesFrom_eq s s.size 0 #[] (by omega)
  rw [List.drop_zero] at he
  have hsz : (Conv.runesFrom s s.size 0 #[]).size = (runesL s.data.toList).length := by rw [he]; simp [runesL]
  have hr := Go.run_runes_of_string (P := Tryd.prog) w 9 44 21 s Tryd.underlying9 Tryd.underlying44 Tryd.underlying21 (by rw [hsz, runesL_len]; have := toks_len (s := s); omega)
  rw [hsz] at hr
  refine ⟨_, _, hr, ((Below.refl _ _).drew).alloc (Nat.le_refl _) _, by simp, fun j x hx => ?_⟩
  have hnew := World.alloc_heap_new w.drew (.cells (Conv.runesFrom s s.size 0 #[] ++ Array.replicate (grownCap w (runesL s.data.toList).length 0 21 - (runesL s.data.toList).length) (.int .i32 0)) 21)
  rw [show w.drew.heap.size = w.heap.size from rfl] at hnew
  unfold World.cell?
  simp only [hnew]
  have hj : j < (runesL s.data.toList).length := (List.getElem?_eq_some_iff.1 hx).1
  have : (Conv.runesFrom s s.size 0 #[] ++ Array.replicate (grownCap w (runesL s.data.toList).length 0 21 - (runesL s.data.toList).length) (.int .i32 0))[j]? = some (.int .i32 x) := by
    rw [Array.getElem?_append_left (by rw [hsz]; exact hj), he]
    simp [runesL] at hx ⊢
    exact hx
  rw [this]
  rfl
/-- 'string(l)' of runes. -/
theorem text_conv (l : List Int) (W : World) (g cap : Nat) (h : RunesAt W g l) : (convert 44 9 (.slice (some ⟨g, 0, none⟩) l.length cap)).run Tryd.prog W = .ok (.string ⟨(textB l).toArray⟩) W := by
  have := run_convert_runes (P := Tryd.prog) W 44 9 21 ⟨g, 0, none⟩ l.length cap l (Nat.le_refl _) Tryd.underlying44 Tryd.underlying21 Tryd.underlying9 (fun j hj => by
    rw [show (⟨g, 0, none⟩ : Addr).add j = ⟨g, j, none⟩ by unfold Addr.add; split <;> simp_all]
    exact h j _ (by simp [List.getD_eq_getElem?_getD, List.getElem?_eq_getElem hj]))
  rw [this, List.take_length, runesBytes_eq]

theorem runes_utf (s : ByteArray) (w : World) (hs : s.size ≤ 4194304) :
    Calls Tryd.prog 17 #[.string s] w fun e w' => ∃ cap, e = .returned (.slice (some ⟨w.heap.size, 0, none⟩) (runesL s.data.toList).length cap) ∧ Below w.heap.size w w' ∧ RunesAt w' w.heap.size (runesL s.data.toList) := by
  obtain ⟨cap, W1, hc, hb, hz, hr⟩ := runes_conv s w hs
  obtain ⟨l, hl⟩ : ∃ l, runesL s.data.toList = l := ⟨_, rfl⟩
  rw [hl] at hc hr ⊢
  have HR := Lib.hid hr
  have HB := Lib.hid hb
  clear hl hr hb hz
  go_enter Tryd.func17, Tryd.ntmps17
  go_wp2
  go_ret
  exact ⟨_, rfl, HB.out, HR.out⟩

end Go.Proofs.YtokbmihjpllgpaaDoor
