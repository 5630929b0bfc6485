/- The reference's Text, and utf.Runes, utf.Text, both Repairs. -/
import Derived.Test.YtokbmihjpllgpaaText
import Derived.Laws.BytesArg
import Derived.Laws.IdiomStrings
set_option linter.unusedVariables false
namespace Go.Proofs.Ytokbmihjpllgpaa
open Go.RowKit Go.Shelf Go.Lib Go.BigFrame
attribute [local go_sem] Oper.semAt_some

def runesC (l : List Int) : List Value := l.flatMap Lib.runeCells
theorem runesC_snoc (l : List Int) (x : Int) : runesC (l ++ [x]) = runesC l ++ Lib.runeCells x := by simp [runesC]
theorem runesC_eq (l : List Int) : runesC l = Lib.byteCells (textB l) := by
  induction l with
  | nil => rfl
  | cons x l ih =>
    rw [runesC, List.flatMap_cons, textB, List.flatMap_cons]
    have e : Lib.byteCells (Lib.encodeRune x ++ List.flatMap Lib.encodeRune l) = Lib.byteCells (Lib.encodeRune x) ++ Lib.byteCells (List.flatMap Lib.encodeRune l) := by simp [Lib.byteCells]
    rw [e, Lib.byteCells_encodeRune]
    congr 1
theorem runesC_len (l : List Int) : (runesC l).length ≤ 4 * l.length := by
  induction l with
  | nil => simp [runesC]
  | cons x l ih =>
    have := (Lib.runeCells_le x).2
    rw [runesC] at ih
    rw [runesC, List.flatMap_cons, List.length_append, List.length_cons]
    omega
theorem runesC_one (l : List Int) : ∀ u ∈ runesC l, u.oneCell' = true := by
  intro u hu
  rw [runesC_eq] at hu
  simp [Lib.byteCells] at hu
  obtain ⟨_, _, rfl⟩ := hu
  rfl

/-- 'string(b)' of a row of bytes of one's own. -/
theorem str_of_row (w : World) (base : Nat) (v : Value) (l : List Int) (h : w.ownsRow base 5 1 v (runesC l).length (runesC l)) :
    (convert 71 9 v).run Try.prog w = .ok (.string ⟨(textB l).toArray⟩) w := by
  have hl : (runesC l).length = (textB l).length := by rw [runesC_eq, Lib.byteCells_length]
  rcases h.2 with ⟨rfl, h0⟩ | ⟨g, cap, cur, rfl, _⟩
  · have hn : textB l = [] := List.length_eq_zero_iff.1 (by omega)
    rw [hn]
    exact run_convert_bytes_nil w 71 5 Try.underlying71 Try.underlying5 0 0 9 Try.underlying9
  · have hc := fun j u => row_cell h j u
    rw [hl]
    refine run_convert_bytes_back w 71 9 5 ⟨g, 0, none⟩ cap (textB l) Try.underlying71 Try.underlying5 Try.underlying9 (fun j hj => ?_)
    rw [show (⟨g, 0, none⟩ : Addr).add j = ⟨g, j, none⟩ by unfold Addr.add; split <;> simp_all]
    refine hc j _ ?_
    rw [runesC_eq]
    simp [Lib.byteCells, hj]

theorem Try.infoU8 : (Try.prog.info? 5).map (fun i => (i.zero, i.size, i.bytes)) = some (some (.int .u8 0), 1, 1) := by kernel_rfl

set_option maxRecDepth 1000000 in
theorem textR_any (v : Value) (l : List Int) (b1 : Nat) (w : World) (hl : l.length ≤ 4194304) (hv : w.ownsRow b1 3 1 v l.length (nums l)) :
    Calls Try.prog 34 #[v] w fun e w' => e = .returned (.string ⟨(textB l).toArray⟩) ∧ Below w.heap.size w w' := by
  obtain ⟨i0, hi, hz0, hz1, hz2⟩ := info_parts Try.infoU8
  obtain ⟨A, cp, rfl, hA⟩ := own_form hv
  go_enter Try.func34, Try.ntmps34
  go_wp2
  go_loopw [3, 4] (fun o i wr => ∃ k : Nat, i = .int .i64 (k : Int) ∧ k ≤ l.length ∧ Below w.heap.size w wr ∧ wr.ownsRow w.heap.size 5 1 o (runesC (l.take k)).length (runesC (l.take k))) (fun _ i _ => l.length - (intOf i).toNat)
  case atStart => exact ⟨0, rfl, Nat.zero_le _, Below.refl _ _, World.ownsRow_nil _ _ _ _⟩
  case round =>
    obtain ⟨k, rfl, hk, hB, hrow⟩ := hrel
    by_cases hlt : k < l.length
    · obtain ⟨g, rfl⟩ := hA (by omega)
      obtain ⟨x, hx⟩ : ∃ s, l[k]? = some s := ⟨_, List.getElem?_eq_getElem hlt⟩
      have c0 := nums_at (own_below hv hB) hx
      have HT := Lib.hid (show l.take (k + 1) = l.take k ++ [x] by rw [List.take_add_one, hx]; rfl)
      have hrl := runesC_len (l.take k)
      rw [List.length_take] at hrl
      have hcl := Lib.runeCells_le x
      have hzl : (Lib.runeCells x).length = (Lib.encodeRuneZ x).length := by simp [Lib.runeCells]
      have hone := runesC_one [x]
      rw [show runesC [x] = Lib.runeCells x by simp [runesC]] at hone
      obtain ⟨M, hM⟩ : ∃ M, runesC (l.take k) = M := ⟨_, rfl⟩
      rw [hM] at hrow hrl
      have HM := Lib.hid hM
      have hBs := hB.size
      clear hx hv hA hM
      go_wp2_with (first
        | (go_at_call 56; refine (encode_any _ _).mono ?_; rintro e w1 ⟨g1, cp1, rfl, hb1, hg1, hbz⟩)
        | (at_builtin; go_must (refine wpList_append_own _ rfl _ _ 71 rfl w.heap.size 5 i0 _ 1 1 Try.underlying71 hi hz0 hz1 hz2 rfl (by decide) _ _ _ rfl (own_below hrow hb1) ⟨g1, 0, none⟩ (Lib.encodeRuneZ x).length cp1 (Lib.runeCells x) rfl (by rw [hzl, Nat.mul_one]) (fun j u hu => by have := hbz j u hu; rwa [show (⟨g1, 0, none⟩ : Addr).add j = ⟨g1, j, none⟩ by unfold Addr.add; split <;> simp_all]) hone (by unfold maxLen; omega) (by omega) (by have := hb1.size; omega) ?_); intro v' w2 hown hg _))
      have hb1s := hb1.size
      go_roundw
      case rel =>
        refine ⟨k + 1, by go_num, hlt, (bst hB hb1).grown hg (by omega) (fun q e => by have := (hrow.lt q e).1; omega), ?_⟩
        rw [HT.out, runesC_snoc, HM.out, List.length_append, hzl]
        exact hown
      case measure => simp [intOf]; omega
    · obtain rfl : k = l.length := by omega
      rw [List.take_length] at hrow
      have hcv := str_of_row _ _ _ _ hrow
      go_wp2
      go_ret
      exact ⟨rfl, hB⟩

theorem runesL_len (l : List UInt8) : (runesL l).length = (U.toks l).length := by simp [runesL]
theorem runesL_range (l : List UInt8) : ∀ x ∈ runesL l, -2147483648 ≤ x ∧ x ≤ 2147483647 := fun x hx => by
  obtain ⟨t, ht, rfl⟩ := List.mem_map.1 hx
  have := (U.toks_fact l t ht).2.2.1
  omega

/-- '[]rune(s)'. -/
theorem runes_conv (s : ByteArray) (w : World) (hs : s.size ≤ 4194304) : ∃ cap W', (convert 9 41 (.string s)).run Try.prog w = .ok (.slice (some ⟨w.heap.size, 0, none⟩) (runesL s.data.toList).length cap) W' ∧
    Below w.heap.size w W' ∧ W'.heap.size = w.heap.size + 1 ∧ RunesAt W' w.heap.size (runesL s.data.toList) := by
  have he := runesFrom_eq s s.size 0 #[] (by omega)
  rw [List.drop_zero] at he
  have hsz : (Conv.runesFrom s s.size 0 #[]).size = (runesL s.data.toList).length := by rw [he]; simp [runesL]
  have hr := Go.run_runes_of_string (P := Try.prog) w 9 41 21 s Try.underlying9 Try.underlying41 Try.underlying21 (by rw [hsz, runesL_len]; have := toks_len (s := s); omega)
  rw [hsz] at hr
  refine ⟨_, _, hr, ((Below.refl _ _).drew).alloc (Nat.le_refl _) _, by simp, fun j x hx => ?_⟩
  have hnew := World.alloc_heap_new w.drew (.cells (Conv.runesFrom s s.size 0 #[] ++ Array.replicate (grownCap w (runesL s.data.toList).length 0 21 - (runesL s.data.toList).length) (.int .i32 0)) 21)
  rw [show w.drew.heap.size = w.heap.size from rfl] at hnew
  unfold World.cell?
  simp only [hnew]
  have hj : j < (runesL s.data.toList).length := (List.getElem?_eq_some_iff.1 hx).1
  have : (Conv.runesFrom s s.size 0 #[] ++ Array.replicate (grownCap w (runesL s.data.toList).length 0 21 - (runesL s.data.toList).length) (.int .i32 0))[j]? = some (.int .i32 x) := by
    rw [Array.getElem?_append_left (by rw [hsz]; exact hj), he]
    simp [runesL] at hx ⊢
    exact hx
  rw [this]
  rfl
/-- 'string(l)' of runes. -/
theorem text_conv (l : List Int) (W : World) (g cap : Nat) (h : RunesAt W g l) : (convert 41 9 (.slice (some ⟨g, 0, none⟩) l.length cap)).run Try.prog W = .ok (.string ⟨(textB l).toArray⟩) W := by
  have := run_convert_runes (P := Try.prog) W 41 9 21 ⟨g, 0, none⟩ l.length cap l (Nat.le_refl _) Try.underlying41 Try.underlying21 Try.underlying9 (fun j hj => by
    rw [show (⟨g, 0, none⟩ : Addr).add j = ⟨g, j, none⟩ by unfold Addr.add; split <;> simp_all]
    exact h j _ (by simp [List.getD_eq_getElem?_getD, List.getElem?_eq_getElem hj]))
  rw [this, List.take_length, runesBytes_eq]

theorem runes_utf (s : ByteArray) (w : World) (hs : s.size ≤ 4194304) :
    Calls Try.prog 36 #[.string s] w fun e w' => ∃ cap, e = .returned (.slice (some ⟨w.heap.size, 0, none⟩) (runesL s.data.toList).length cap) ∧ Below w.heap.size w w' ∧ RunesAt w' w.heap.size (runesL s.data.toList) := by
  obtain ⟨cap, W1, hc, hb, hz, hr⟩ := runes_conv s w hs
  obtain ⟨l, hl⟩ : ∃ l, runesL s.data.toList = l := ⟨_, rfl⟩
  rw [hl] at hc hr ⊢
  have HR := Lib.hid hr
  have HB := Lib.hid hb
  clear hl hr hb hz
  go_enter Try.func36, Try.ntmps36
  go_wp2
  go_ret
  exact ⟨_, rfl, HB.out, HR.out⟩

theorem text_utf (l : List Int) (w : World) (g cap : Nat) (h : RunesAt w g l) :
    Calls Try.prog 33 #[.slice (some ⟨g, 0, none⟩) l.length cap] w fun e w' => e = .returned (.string ⟨(textB l).toArray⟩) ∧ Below w.heap.size w w' := by
  have hc := text_conv l w g cap h
  clear h
  go_enter Try.func33, Try.ntmps33
  go_wp2
  go_ret
  exact ⟨rfl, Below.refl _ _⟩
end Go.Proofs.Ytokbmihjpllgpaa
