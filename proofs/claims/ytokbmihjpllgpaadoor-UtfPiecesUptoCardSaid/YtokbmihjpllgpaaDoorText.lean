/- Texts of runes. -/
import Derived.Test.YtokbmihjpllgpaaDoorRunes
import Derived.Lib.RuneBytes
import Derived.Laws.Cover4
set_option linter.unusedVariables false
namespace Go.Proofs.YtokbmihjpllgpaaDoor
open Go.RowKit Go.Shelf Go.Lib Go.BigFrame
attribute [local go_sem] Oper.semAt_some

/-- The bytes of runes. -/
def textB (l : List Int) : List UInt8 := l.flatMap Lib.encodeRune

theorem u8_of (n : Nat) (z : Int) (h : z = n) : UInt8.ofNat n = z.toNat.toUInt8 := by subst h; rfl
theorem enc_eq (r : Int) : (Utf8.encode r).data.toList = Lib.encodeRune r := by
  unfold Utf8.encode
  by_cases hv : Utf8.valid r = true
  · have hv' : 0 ≤ r ∧ r ≤ 1114111 ∧ ¬ (55296 ≤ r ∧ r ≤ 57343) := by
      simp [Utf8.valid] at hv
      omega
    simp only [hv, if_true]
    unfold Lib.encodeRune
    by_cases c1 : r.toNat < 128
    · rw [if_pos c1, Lib.encodeRuneZ_one (by omega) (by omega)]
      simp only [List.map_cons, List.map_nil]
    · rw [if_neg c1]
      by_cases c2 : r.toNat < 2048
      · rw [if_pos c2, Lib.encodeRuneZ_two (by omega) (by omega)]
        simp only [List.map_cons, List.map_nil]
        rw [u8_of _ (192 + r / 64) (by omega), u8_of _ (128 + r % 64) (by omega)]
      · rw [if_neg c2]
        by_cases c3 : r.toNat < 65536
        · rw [if_pos c3, Lib.encodeRuneZ_three (by omega)]
          simp only [List.map_cons, List.map_nil]
          rw [u8_of _ (224 + r / 4096) (by omega), u8_of _ (128 + r / 64 % 64) (by omega), u8_of _ (128 + r % 64) (by omega)]
        · rw [if_neg c3, Lib.encodeRuneZ_four (by omega) (by omega)]
          simp only [List.map_cons, List.map_nil]
          rw [u8_of _ (240 + r / 262144) (by omega), u8_of _ (128 + r / 4096 % 64) (by omega), u8_of _ (128 + r / 64 % 64) (by omega), u8_of _ (128 + r % 64) (by omega)]
  · have hv' : r < 0 ∨ (55296 ≤ r ∧ r ≤ 57343) ∨ 1114111 < r := by
      simp [Utf8.valid] at hv
      omega
    simp only [hv, Bool.false_eq_true, if_false]
    unfold Lib.encodeRune
    rw [Lib.encodeRuneZ_bad hv']
    rfl

theorem foldl_list (l : List Int) : ∀ (s : ByteArray), (l.foldl (fun r n => r ++ Utf8.encode n) s).data.toList = s.data.toList ++ textB l := by
  induction l with
  | nil => intro s; simp [textB]
  | cons x l ih =>
    intro s
    have h2 : (s ++ Utf8.encode x).data.toList = s.data.toList ++ (Utf8.encode x).data.toList := by simp
    rw [List.foldl_cons, ih, h2, enc_eq, List.append_assoc]
    rfl
theorem runesBytes_eq (l : List Int) : runesBytes l = ⟨(textB l).toArray⟩ := by
  have h := foldl_list l ByteArray.empty
  unfold runesBytes
  generalize l.foldl (fun r n => r ++ Utf8.encode n) ByteArray.empty = t at h
  cases t
  simp only at h
  congr 1
  apply Array.toList_inj.1
  rw [h]
  rfl

/-- What a row of bytes holds. -/
def BytesZ (W : World) (g : Nat) (l : List Value) : Prop := ∀ (j : Nat) (u : Value), l[j]? = some u → W.cell? ⟨g, j, none⟩ = some u
theorem bytesZ_new (w : World) (t : TypeId) (l : List Value) : BytesZ (w.alloc (.cells l.toArray t)) w.heap.size l := fun j u h => by
  have := World.alloc_heap_new w (.cells l.toArray t)
  unfold World.cell?
  simp only [this, List.getElem?_toArray, h]
  rfl

/-- What Encode answers. -/
def EncP (r : Int) (w : World) (e : Ending) (w' : World) : Prop := ∃ g cap, e = .returned (.slice (some ⟨g, 0, none⟩) (Lib.encodeRuneZ r).length cap) ∧ Below w.heap.size w w' ∧ w.heap.size ≤ g ∧ BytesZ w' g (Lib.runeCells r)
theorem encP (r : Int) (w : World) (l : List Int) (c : Nat) (t : TypeId) (h : Lib.encodeRuneZ r = l) (n : Nat) (hn : n = l.length) : EncP r w (.returned (.slice (some ⟨w.heap.size, 0, none⟩) n c)) (w.alloc (.cells ((l.map (Value.int .u8)).toArray) t)) := by
  subst hn
  refine ⟨w.heap.size, c, by rw [h], (Below.refl _ _).alloc (Nat.le_refl _) _, Nat.le_refl _, ?_⟩
  unfold Lib.runeCells
  rw [h]
  exact bytesZ_new w _ _

end Go.Proofs.YtokbmihjpllgpaaDoor
