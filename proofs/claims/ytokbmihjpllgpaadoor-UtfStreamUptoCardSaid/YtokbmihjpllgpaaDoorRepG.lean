/- A repaired text holds nothing back. -/
import Derived.Test.YtokbmihjpllgpaaDoorEnc
import Derived.Test.YtokbmihjpllgpaaDoorRepair
import Derived.Test.YtokbmihjpllgpaaDoorHoldG
import Derived.Test.YtokbmihjpllgpaaDoorSeamsP
set_option linter.unusedVariables false
namespace Go.Proofs.YtokbmihjpllgpaaDoor
open Go.RowKit Go.Shelf Go.Lib Go.BigFrame

theorem repG_size (s : ByteArray) : (repB s).size ≤ 4 * s.size := by
  rw [U.size_eq, show (repB s).data.toList = textB (runesL s.data.toList) from rfl]
  have h : (textB (runesL s.data.toList)).length ≤ 4 * (runesL s.data.toList).length := by
    rw [← Lib.byteCells_length, ← runesC_eq]; exact runesC_len _
  rw [runesL_len] at h
  have := toks_len (s := s)
  omega
theorem repG_hold (s : ByteArray) : hold (repB s).data.toList = 0 := by
  refine hold_good _ (fun x hx => ?_)
  have h := U.bads_text (runesL s.data.toList)
  rw [show (repB s).data.toList = textB (runesL s.data.toList) from rfl] at hx
  unfold badsL at h
  rw [List.map_eq_nil_iff, List.filter_eq_nil_iff] at h
  simpa using h x hx
end Go.Proofs.YtokbmihjpllgpaaDoor
