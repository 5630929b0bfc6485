/- The stream of pieces: what a round does to the world. -/
import Derived.Test.YtokbmihjpllgpaaDoorLawOwn
import Derived.Test.YtokbmihjpllgpaaDoorStrP
set_option linter.unusedVariables false
namespace Go.Proofs.YtokbmihjpllgpaaDoor
open Go.RowKit Go.Shelf Go.Lib Go.BigFrame

/-- A slice of ints that came in. -/
def ArgI (w : World) (v : Value) (c : List Int) : Prop := ∃ A cap, v = .slice A c.length cap ∧ (0 < c.length → ∃ g o, A = some ⟨g, o, none⟩ ∧ ∀ (j : Nat) (x : Int), c[j]? = some x → w.cell? ⟨g, o + j, none⟩ = some (.int .i64 x))
/-- What a round knows: the bytes held; the row apart from them; the signs so far. -/
structure St (w : World) (p : Nat) (sl : List UInt8) (lv : Value) (a t : Nat) (b0 : Nat) (wr : World) : Prop where
  below : Below w.heap.size w wr
  pc : Pc wr p ((sl.drop t).take (a - t))
  row : ∃ la : List U.Sg, la.length ≤ t ∧ U.signs sl = la ++ onL t (U.signs (sl.drop t)) ∧ wr.ownsRow b0 40 4 lv la.length (cellsS la)
  size : b0 ≤ wr.heap.size
theorem feed_fr_is (p : Nat) (xv : Value) (l b al D : List UInt8) (R : ByteArray) (w : World) (hp : 2 ≤ p) (hP : Pc w p l) (hX : Bsl w xv b) (T : Tabs w) (hs : l.length + b.length ≤ 4194304) (hal : l ++ b = al)
    (hR : (⟨(al.take (al.length - hold al)).toArray⟩ : ByteArray) = R) (hD : al.drop (al.length - hold al) = D) :
    Calls Tryd.prog 7 #[.pointer (some ⟨p, 0, none⟩), xv] w fun e w' => e = .returned (.string R) ∧ Fr (fun k => k ≠ p) w w' ∧ Pcn w' p D w.heap.size := by
  subst hal hR hD
  exact feedU_fr p xv l b w hp hP hX T hs

/-- The row behind Feed. -/
theorem St.row2 {w : World} {p : Nat} {sl : List UInt8} {lv : Value} {a t b0 : Nat} {wr W1 w2 : World} (h : St w p sl lv a t b0 wr) (hp : p < b0) (hc : Below wr.heap.size wr W1) (hf : Fr (fun k => k ≠ p) W1 w2) :
    (∃ la : List U.Sg, la.length ≤ t ∧ U.signs sl = la ++ onL t (U.signs (sl.drop t)) ∧ w2.ownsRow b0 40 4 lv la.length (cellsS la)) ∧ b0 ≤ w2.heap.size ∧ (∀ q, lv.ownBlock = some q → q < wr.heap.size) := by
  obtain ⟨la, h1, h2, h3⟩ := h.row
  have := hc.size
  have := hf.size
  have := h.size
  exact ⟨⟨la, h1, h2, ownsRow_fr (own_below h3 hc) hf (fun g hg _ => by omega)⟩, by omega, fun q hq => (h3.lt q hq).2⟩

/-- A round done. -/
theorem St.step {w : World} {p : Nat} {s : ByteArray} {lv lv' : Value} {L a t n m b0 : Nat} {al : List UInt8} {wr W1 w2 w3 : World} (h : St w p s.data.toList lv a t b0 wr) (hR : Rd s L a t n m al) (hwp : w.heap.size ≤ p) (hp : p < b0)
    (hc : Below wr.heap.size wr W1) (hf : Fr (fun k => k ≠ p) W1 w2) (hP : Pcn w2 p ((s.data.toList.drop (t + m)).take (a + n - (t + m))) W1.heap.size) {la : List U.Sg} (h1 : la.length ≤ t) (h2 : U.signs s.data.toList = la ++ onL t (U.signs (s.data.toList.drop t))) (h3 : ∀ q, lv.ownBlock = some q → q < wr.heap.size)
    (hb : Below b0 w2 w3) (hfr : Fr (fun k => lv.ownBlock ≠ some k) w2 w3) (hob : ∀ q, lv'.ownBlock = some q → lv.ownBlock = some q ∨ w2.heap.size ≤ q)
    (hrow : w3.ownsRow b0 40 4 lv' (la.length + (U.signs (s.extract t (t + m)).data.toList).length) (cellsS (la ++ onL t (U.signs (s.extract t (t + m)).data.toList)))) :
    St w p s.data.toList lv' (a + n) (t + m) b0 w3 := by
  have k1 := hc.size
  have k2 := hf.size
  have k3 := hb.size
  have k4 := h.size
  have k5 := h.below.size
  refine ⟨?_, ?_, ?_, by omega⟩
  · have b1 : Below w.heap.size w W1 := h.below.trans (hc.mono k5)
    have b2 : Below w.heap.size W1 w2 := hf.toBelow (fun k hk => by omega) (by omega)
    exact (b1.trans b2).trans (hb.mono (by omega))
  · obtain ⟨hv, q1, q2, q3⟩ := hP
    have hpl := (Array.getElem?_eq_some_iff.1 q1).1
    have hlp : lv.ownBlock ≠ some p := fun e => by
      obtain ⟨la', _, _, r⟩ := h.row
      have := (r.lt p e).1; omega
    refine ⟨hv, (hfr.block p hpl hlp).trans q1, ?_⟩
    · rcases q2 with q2 | ⟨g, o, c, rfl, hle, hB⟩
      · exact .inl q2
      · refine .inr ⟨g, o, c, rfl, hle, hB.fr hfr (fun _ e => ?_)⟩
        have := q3 g rfl
        have := h3 g e
        omega
  · have hl := hR.sz
    have hle := signs_len_le (s.extract t (t + m))
    refine ⟨la ++ onL t (U.signs (s.extract t (t + m)).data.toList), ?_, ?_, by rw [List.length_append, show (onL t (U.signs (s.extract t (t + m)).data.toList)).length = (U.signs (s.extract t (t + m)).data.toList).length by simp [onL]]; exact hrow⟩
    · rw [List.length_append]; simp only [onL, List.length_map]; omega
    · rw [h2, hR.signs]
      unfold onL
      rw [List.map_append, List.append_assoc]
      congr 2
      exact onL_onL t m _
theorem Pc.nil_fr {S : Nat → Prop} {w w' : World} {p : Nat} (h : Pc w p []) (hf : Fr S w w') (hS : S p) : Pc w' p [] := by
  obtain ⟨hv, h1, h2⟩ := h
  refine ⟨hv, (hf.block p (Array.getElem?_eq_some_iff.1 h1).1 hS).trans h1, ?_⟩
  rcases h2 with h2 | ⟨g, o, c, rfl, hle, hB⟩
  · exact .inl h2
  · exact .inr ⟨g, o, c, rfl, hle, fun j b hj => by simp at hj⟩
end Go.Proofs.YtokbmihjpllgpaaDoor
