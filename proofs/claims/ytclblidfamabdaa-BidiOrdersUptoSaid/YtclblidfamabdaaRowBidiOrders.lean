/- The row of BidiOrders. Turned from the kit's toy of an Upto statement. -/
import Derived.Test.YtclblidfamabdaaLawBdR
import Derived.Test.YtclblidfamabdaaPost
import Derived.Test.YtclblidfamabdaaRows
import Derived.ChangeMaps5
import Derived.WalkKit
import Derived.ProofKit
import Derived.OpenShut
import Derived.JoinedCond
import Derived.Carry
set_option linter.unusedVariables false
set_option linter.unusedSimpArgs false
namespace Go.Proofs.Ytclblidfamabdaa.bidiOrders
open Go.ChangeShapes Go.WideShapes Go.ChangeAt Go.RowKit Go.Lib Go.ChangeMaps

theorem own : ownKnob Try.prog.godebug = none := by kernel_rfl
theorem laidOut : laidOutB Try.prog = true := by kernel_rfl

theorem bulk_lits (H : Type) (l : List Int) : l.length ≤ Rows.uptoBulkAll (lits (H := H) .i64 l) := by
  induction l with
  | nil => simp [lits, Rows.uptoBulkAll]
  | cons x l ih => simp only [lits, List.map_cons, Rows.uptoBulkAll, List.length_cons, Rows.uptoBulk] at ih ⊢; omega

set_option maxRecDepth 100000 in
theorem contract (H : Type) (enc : TypeId × Value → H) (W : World) (base : Nat) (args : Array Value) (ds gs : List (DataW H)) (before : List MemPlace)
    (hval : ∀ (j : Nat) t v, Try.f6.params[j]? = some t → args[j]? = some v → Value.okWide Try.prog W .any base t v)
    (hW : DataW.Whole enc Try.prog Try.f6.params.toList Rows.bidiOrdersSpec.vars false W args.toList ds gs before) (hk : Rows.uptoSmall H (ds ++ gs) = true) :
    Calls Try.prog 6 args W fun e W' => ∃ v, e = .returned v ∧ Rows.bidiOrdersSpec.post enc Try.prog Try.f6 false true false false W args v W' := by
  have hW' := hW
  obtain ⟨p, q, hA0, hV, rfl, hfz, hnd⟩ := hW
  have hA : DataW.TrodAll enc Try.prog W 0 (fun _ => true) true Try.f6.params.toList args.toList ds p := hA0
  rw [Try.params6] at hA hval
  obtain ⟨v0, vs0, d0, ds0, p0, q0, hargs, rfl, rfl, h0, r0⟩ := trodAll_cons hA
  obtain ⟨rfl, rfl, rfl⟩ := trodAll_nil r0
  obtain rfl : args = #[v0] := by cases args; simp_all
  obtain ⟨rfl, rfl⟩ := trodVars_none hV
  obtain ⟨A, len, cap, rfl⟩ := okWide_slice Try.underlying29 (hval 0 29 v0 rfl rfl)
  have h0' := h0
  obtain ⟨fuel, hf⟩ := h0
  clear hA0
  simp only [List.append_nil] at hW'
  have hbk := of_decide_eq_true hk
  simp only [Rows.uptoBulkAll, List.append_nil, List.cons_append, List.nil_append] at hbk
  have key : ∃ l : List Int, l.length ≤ 1048576 ∧ (∀ x ∈ l, -9223372036854775808 ≤ x ∧ x ≤ 9223372036854775807) ∧ ArgI W (.slice A len cap) l := by
    rcases open_ints Try.underlying29 Try.underlying3 (by kernel_rfl) hf with ⟨hcs, hx⟩ | ⟨a, len', cap', zs, hcs, _, hl, hm, hz, hx, hcell, hwf⟩
    · simp [Value.cells] at hcs
      obtain ⟨rfl, rfl, rfl⟩ := hcs
      exact ⟨[], by simp, (fun _ h => by cases h), .inl ⟨rfl, rfl⟩⟩
    · simp [Value.cells] at hcs
      obtain ⟨rfl, rfl, rfl⟩ := hcs
      simp only [Prod.mk.injEq] at hx
      obtain ⟨rfl, rfl⟩ := hx
      simp only [if_true] at hz
      have hlz : (zs.take len).length = len := by rw [List.length_take]; omega
      refine ⟨zs.take len, ?_, fun x hx => ?_, .inr ⟨a, cap, by rw [hlz], by omega, fun j x hx => ?_⟩⟩
      · have hb := bulk_lits H (zs.take len)
        simp only [Rows.uptoBulk] at hbk
        omega
      · have := hwf x (List.mem_of_mem_take hx)
        simpa [Lit.wf, IntKind.min, IntKind.max, IntKind.signed, IntKind.bits] using this
      · have hj : j < (zs.take len).length := (List.getElem?_eq_some_iff.1 hx).1
        rw [hcell j (by omega)]
        rw [List.getElem?_take] at hx
        split at hx
        · rw [List.getD_eq_getElem?_getD, hx]; rfl
        · cases hx
  obtain ⟨l, hl1, hl2, hl3⟩ := key
  refine (bidiOrders_law (.slice A len cap) l W hl1 hl2 hl3).mono fun e W' ⟨he, hg⟩ => ?_
  subst he
  have hlt := hW'.lt
  exact ⟨_, rfl, post_of_below (pa := p0) (pv := []) hW' (fun _ _ _ => (trodAll_cons_mk (shut_bool Try.underlying4 _) trodAll_mk0))
    (fun sp hsp => by
      have t := WideElems.Trod_stays (sp' := sp) laidOut (by kernel_rfl) (of_decide_eq_true (by kernel_rfl)) h0' (fun x hx => hg.same (hlt x (by simpa using hx))) (fun x hx => hsp x (by simpa using hx))
      have t2 := trodAll_cons_mk t trodAll_mk0
      rw [List.append_nil] at t2
      exact t2) (fun _ _ => rfl) (by simp)
    hg (ok_one (by kernel_rfl) rfl (okWide_bool_mk Try.underlying4 _))⟩

set_option maxRecDepth 100000 in
theorem lifted (os : Os) (started : os.Started) (H : Type) (enc : TypeId × Value → H) (F : Stop.Interp) :
    ReturnsInHanded {} Try.checked os 6 .any ((Rows.OpenSpec.upto Rows.bidiOrdersSpec).pre6 enc Try.prog Try.f6 Rows.bidiOrdersUptoRow.domain false) (((Rows.OpenSpec.upto Rows.bidiOrdersSpec).at F).post enc Try.prog Try.f6 false true false false) := by
  refine returnsInHanded_of_cond (C := Try.checked) (s := Rows.OpenSpec.upto Rows.bidiOrdersSpec) (k := Rows.uptoSmall) rfl own started (by kernel_rfl) Try.func6
    (OpenSpec.witness (enc := enc) (C := Try.checked) (s := Rows.OpenSpec.upto Rows.bidiOrdersSpec) (k := Rows.uptoSmall) rfl false ⟨#[], #[.slice none 0 0], []⟩ 8 (by kernel_rfl) (by kernel_rfl) (by kernel_rfl)
      (x := ([.nil], [], [])) (by kernel_rfl) rfl (by kernel_rfl)) ?_
  intro W base args ds gs before hval hW _ hk _
  exact contract H enc W base args ds gs before hval hW hk

theorem over : Rows.bidiOrdersUptoRow.holds Try.pinned (Rows.OpenSpec.upto Rows.bidiOrdersSpec) :=
  OpenClaim.holds_of_cond 6 Try.f6 rfl rfl rfl rfl rfl rfl rfl ⟨rfl, rfl, rfl, rfl, rfl⟩ rfl rfl rfl rfl rfl (by kernel_rfl) Try.func6 (by kernel_rfl)
    (of_decide_eq_true (by kernel_rfl)) (by unfold Func.isWrapper; first | (rw [if_pos (by decide +kernel)]; kernel_rfl) | (rw [if_neg (by decide +kernel)]; exact ⟨rfl, rfl⟩))
    (fun os started H enc _ F => lifted os started H enc F)

theorem proved : Rows.BidiOrdersUptoSaid :=
  over
end Go.Proofs.Ytclblidfamabdaa.bidiOrders
