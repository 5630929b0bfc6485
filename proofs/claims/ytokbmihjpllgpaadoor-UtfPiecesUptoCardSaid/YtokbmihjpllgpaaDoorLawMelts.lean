/- The reference's Melts; the law of the seam. -/
import Derived.Test.YtokbmihjpllgpaaDoorSeam
import Derived.Test.YtokbmihjpllgpaaDoorLawSigns
set_option linter.unusedVariables false
namespace Go.Proofs.YtokbmihjpllgpaaDoor
open Go.RowKit Go.Shelf Go.Lib Go.BigFrame
attribute [local go_sem] Oper.semAt_some

/-- Does it differ? -/
def dif (l x y : List U.Sg) : Bool := decide (l ≠ x ++ y)
theorem dif_len {l x y : List U.Sg} (h : l.length ≠ x.length + y.length) : dif l x y = true := by
  unfold dif
  refine decide_eq_true fun e => h ?_
  rw [e, List.length_append]
theorem dif_at {l x y : List U.Sg} {k : Nat} {a b : U.Sg} (ha : l[k]? = some a) (hb : (x ++ y)[k]? = some b) (h : a ≠ b) : dif l x y = true := by
  unfold dif
  refine decide_eq_true fun e => h ?_
  rw [e, hb] at ha
  exact (Option.some.inj ha).symm
theorem dif_not {l x y : List U.Sg} (hl : l.length = x.length + y.length) (h : l.take l.length = (x ++ y).take l.length) : dif l x y = false := by
  unfold dif
  refine decide_eq_false fun e => e ?_
  rw [List.take_length, List.take_of_length_le (by simp [hl])] at h
  exact h
theorem same_succ {l z : List U.Sg} {k : Nat} {a : U.Sg} (h : l.take k = z.take k) (ha : l[k]? = some a) (hb : z[k]? = some a) : l.take (k + 1) = z.take (k + 1) := by
  rw [List.take_add_one, List.take_add_one, h, ha, hb]

theorem melts_dif (a b : ByteArray) : meltsB a.data.toList b.data.toList = dif (U.signs (a ++ b).data.toList) (U.signs a.data.toList) ((U.signs b.data.toList).map (U.Sg.on a.size)) := by
  have hab : (a ++ b).data.toList = a.data.toList ++ b.data.toList := by simp
  have := U.signs_seam a.data.toList b.data.toList
  rw [hab, U.size_eq]
  unfold meltsB dif
  cases hv : (U.signs (a.data.toList ++ b.data.toList)).any (overSeam a.data.toList.length) with
  | false => rw [eq_comm, decide_eq_false_iff_not, Decidable.not_not]; exact this.1 hv
  | true =>
    rw [eq_comm, decide_eq_true_eq]
    intro e
    rw [this.2 e] at hv
    cases hv

theorem ret_dif {l x y : List U.Sg} {k : Nat} {s z : U.Sg} {B : Bool} (hs : l[k]? = some s) (hz : (x ++ y)[k]? = some z) (hB : decide (s = z) = B) (h : (!B) = true) : dif l x y = true := by
  subst hB
  exact dif_at hs hz (by simpa using h)
theorem step_dif {l x y : List U.Sg} {k : Nat} {s z : U.Sg} {B : Bool} (hs : l[k]? = some s) (hz : (x ++ y)[k]? = some z) (hB : decide (s = z) = B) (h : (!B) = false) (hk : l.take k = (x ++ y).take k) : l.take (k + 1) = (x ++ y).take (k + 1) := by
  subst hB
  have e : s = z := by simpa using h
  subst e
  exact same_succ hk hs hz

end Go.Proofs.YtokbmihjpllgpaaDoor
