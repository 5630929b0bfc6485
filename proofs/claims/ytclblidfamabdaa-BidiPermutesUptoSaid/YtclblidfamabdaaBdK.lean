/- Classes of a text's clusters, plain: the first rune of each. -/
import Derived.Test.YtclblidfamabdaaBdH
import Derived.Test.YtclblidfamabdaaCellX
import Derived.Test.YtclblidfamabdaaCellO
import Derived.Test.YtclblidfamabdaaCellZ
set_option linter.unusedVariables false
namespace Go.Proofs.Ytclblidfamabdaa
open Go.RowKit Go.Shelf Go.Lib

/-- The class of a text's k-th cluster. -/
def B.kcl (l : List U.Tk) (k : Nat) : Nat := B.cls (C.rune l (C.sgF l k) : Int)
theorem B.kcl_le (l : List U.Tk) (k : Nat) : 1 ≤ B.kcl l k ∧ B.kcl l k ≤ 17 := B.cls_le _

theorem ext_list (s : ByteArray) (a b : Nat) : (s.extract a b).data.toList = (s.data.toList.drop a).take (b - a) := by
  cases s with
  | mk d =>
    simp [ByteArray.extract, ByteArray.copySlice]
theorem part_toks (s : ByteArray) (k : Nat) (x : C.Cl) (hk : (C.clus (U.toks s.data.toList))[k]? = some x) : U.toks (s.extract x.at_ (x.at_ + x.len)).data.toList = ((U.toks s.data.toList).drop x.frm).take (x.to_ - x.frm) := by
  obtain ⟨e1, e2, e3, e4, e5, e6, e7, e8, e9, e10⟩ := C.clus_steps _ (C.toks_14 _) k x hk
  rw [ext_list, Nat.add_sub_cancel_left, e1, e2, e3]
  have h := U.toks_cut ((U.toks s.data.toList).drop (C.sgF (U.toks s.data.toList) k)) ((U.toks s.data.toList).take (C.sgF (U.toks s.data.toList) k)) s.data.toList (List.take_append_drop _ _).symm
  have e : U.wsum ((U.toks s.data.toList).take (C.sgF (U.toks s.data.toList) k)) = C.atF (U.toks s.data.toList) k := rfl
  rw [e] at h
  obtain ⟨l, hl⟩ : ∃ l, U.toks s.data.toList = l := ⟨_, rfl⟩
  obtain ⟨n, hn⟩ : ∃ n, C.sgF l (k + 1) - C.sgF l k = n := ⟨_, rfl⟩
  rw [hl] at h e4 e5 ⊢
  rw [hn]
  have h2 := U.toks_cut ((l.drop (C.sgF l k)).drop n) ((l.drop (C.sgF l k)).take n) (s.data.toList.drop (C.atF l k)) (h.2.trans (List.take_append_drop _ _).symm)
  have ew : U.wsum ((l.drop (C.sgF l k)).take n) = x.len := by
    have e5' : C.sgF l (k + 1) = C.sgF l k + n := by omega
    have e6' : C.atF l (k + 1) = U.wsum (l.take (C.sgF l k + n)) := by rw [← e5']; rfl
    have e7' : C.atF l k = U.wsum (l.take (C.sgF l k)) := rfl
    rw [List.take_add, C.wsum_app] at e6'
    omega
  rw [ew] at h2
  exact h2.1
theorem part_first (s : ByteArray) (k : Nat) (x : C.Cl) (hk : (C.clus (U.toks s.data.toList))[k]? = some x) : 0 < (s.extract x.at_ (x.at_ + x.len)).size ∧ ∃ wd, Utf8.decode (s.extract x.at_ (x.at_ + x.len)) 0 = (C.rune (U.toks s.data.toList) (C.sgF (U.toks s.data.toList) k), wd) := by
  have hp := part_toks s k x hk
  obtain ⟨e1, e2, e3, e4, e5, e6, e7, e8, e9, e10⟩ := C.clus_steps _ (C.toks_14 _) k x hk
  obtain ⟨p, hpp⟩ : ∃ p, s.extract x.at_ (x.at_ + x.len) = p := ⟨_, rfl⟩
  rw [hpp, e2, e3] at hp
  rw [hpp]
  obtain ⟨l, hl⟩ : ∃ l, U.toks s.data.toList = l := ⟨_, rfl⟩
  rw [hl] at hp e5 e6 ⊢
  have hlen := U.wsum_toks p.data.toList
  have h0 : 0 < p.size := by
    rcases Nat.eq_zero_or_pos p.size with h | h
    · exfalso
      have hz : p.data.toList = [] := by
        have := U.size_eq p
        exact List.length_eq_zero_iff.1 (by omega)
      rw [hz, U.toks_nil] at hp
      have := congrArg List.length hp
      simp at this
      omega
    · exact h
  refine ⟨h0, ?_⟩
  have ht := toks_at h0
  obtain ⟨c, wd, hd⟩ : ∃ c wd, Utf8.decode p 0 = (c, wd) := ⟨_, _, rfl⟩
  rw [hd, List.drop_zero] at ht
  refine ⟨wd, ?_⟩
  rw [hd]
  rw [ht] at hp
  have h1 := congrArg (fun q => q[0]?) hp
  simp only [List.getElem?_cons_zero] at h1
  rw [List.getElem?_take, if_pos (by omega), List.getElem?_drop, Nat.add_zero] at h1
  unfold C.rune
  rw [← h1]
  rfl
end Go.Proofs.Ytclblidfamabdaa
