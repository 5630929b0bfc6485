/- The stream of pieces: what a round does to the lists: plain. -/
import Derived.Test.YtokbmihjpllgpaaDoorHoldG
import Derived.Test.YtokbmihjpllgpaaDoorMovedF
import Derived.Test.YtokbmihjpllgpaaDoorCutOfP
set_option linter.unusedVariables false
namespace Go.Proofs.YtokbmihjpllgpaaDoor

theorem on_zero (l : List U.Sg) : l.map (U.Sg.on 0) = l := by
  rw [show U.Sg.on 0 = id from funext fun x => rfl, List.map_id]
theorem onL_onL (p q : Nat) (l : List U.Sg) : onL p (onL q l) = onL (p + q) l := by
  unfold onL
  rw [List.map_map]
  congr 1
  funext x
  show U.Sg.on p (U.Sg.on q x) = U.Sg.on (p + q) x
  unfold U.Sg.on
  simp only [U.Sg.mk.injEq, and_true]
  omega
/-- A round of the stream: at a place a, told up to t, n bytes more: m are told. -/
structure Rd (s : ByteArray) (L a t n m : Nat) (al : List UInt8) : Prop where
  cat : (s.data.toList.drop t).take (a - t) ++ (s.extract a (a + n)).data.toList = al
  le : t + m ≤ a + n
  le3 : a + n ≤ t + m + 3
  sz : (s.extract t (t + m)).size = m
  told : (⟨(al.take (al.length - hold al)).toArray⟩ : ByteArray) = s.extract t (t + m)
  rest : al.drop (al.length - hold al) = (s.data.toList.drop (t + m)).take (a + n - (t + m))
  held : ((s.data.toList.drop (t + m)).take (a + n - (t + m))).length = a + n - (t + m)
  sm : ((s.data.toList.drop t).take (a - t)).length + (s.extract a (a + n)).data.toList.length = a + n - t
  signs : U.signs (s.data.toList.drop t) = U.signs (s.extract t (t + m)).data.toList ++ onL m (U.signs (s.data.toList.drop (t + m)))

theorem rd_is (s : ByteArray) (L a t n : Nat) (hL : s.size = L) (hta : t ≤ a) (han : a + n ≤ L) : ∃ m al, Rd s L a t n m al := by
  obtain ⟨SL, hSL⟩ : ∃ l, s.data.toList = l := ⟨_, rfl⟩
  have hlen : SL.length = L := by rw [← hSL, ← hL]; exact (U.size_eq s).symm
  have hcat : (SL.drop t).take (a - t) ++ (SL.drop a).take (a + n - a) = (SL.drop t).take (a + n - t) := by
    rw [show a + n - t = (a - t) + n by omega, show a + n - a = n by omega, List.take_add, List.drop_drop, show t + (a - t) = a by omega]
  obtain ⟨al, hal⟩ : ∃ al, (SL.drop t).take (a + n - t) = al := ⟨_, rfl⟩
  have hall : al.length = a + n - t := by rw [← hal, List.length_take, List.length_drop]; omega
  obtain ⟨h1, h2⟩ := hold_le al
  have hs := seam_hold al (SL.drop (a + n))
  have e1 : al ++ SL.drop (a + n) = SL.drop t := by
    rw [← hal, show SL.drop (a + n) = (SL.drop t).drop (a + n - t) by rw [List.drop_drop]; congr 1; omega, List.take_append_drop]
  obtain ⟨m, hm⟩ : ∃ m, al.length - hold al = m := ⟨_, rfl⟩
  have ht : al.take m = (SL.drop t).take m := by rw [← hal, List.take_take]; congr 1; omega
  have hd : al.drop m = (SL.drop (t + m)).take (a + n - (t + m)) := by
    rw [← hal, List.drop_take, List.drop_drop]; congr 1; omega
  have hd2 : al.drop m ++ SL.drop (a + n) = SL.drop (t + m) := by
    rw [← List.drop_append_of_le_length (by omega), e1, List.drop_drop]
  have hx : (s.extract t (t + m)).data.toList = (SL.drop t).take m := by rw [ext_list, hSL]; congr 1; omega
  rw [hm, e1, hd2] at hs
  refine ⟨m, al, ?_, by omega, by omega, ?_, ?_, ?_, ?_, ?_, ?_⟩
  · rw [ext_list, hSL, hcat, hal]
  · rw [ext_size s t (t + m) (by omega)]; omega
  · apply ba_eq
    rw [hm, hx, ← ht]
  · rw [hm, hSL, hd]
  · rw [hSL, List.length_take, List.length_drop]; omega
  · rw [hSL, ext_list, hSL, List.length_take, List.length_drop, List.length_take, List.length_drop]; omega
  · rw [hSL, hs, hx, ht]; rfl
end Go.Proofs.YtokbmihjpllgpaaDoor
