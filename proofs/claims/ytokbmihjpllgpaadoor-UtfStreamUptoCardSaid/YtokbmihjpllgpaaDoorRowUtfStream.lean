/- The row of UtfStream. Turned from the kit's toy of an Upto statement. -/
import Derived.Test.YtokbmihjpllgpaaDoorLawStream
import Derived.Test.YtokbmihjpllgpaaDoorPost
import Derived.Test.YtokbmihjpllgpaaDoorCards
import Derived.Test.YtokbmihjpllgpaaDoorTie
import Derived.Test.YtokbmihjpllgpaaDoorTabs
import Derived.Deep.DeepHandedRow
import Derived.ChangeMaps5
import Derived.WalkKit
import Derived.ProofKit
import Derived.OpenShut
import Derived.JoinedCond
import Derived.Carry
set_option linter.unusedVariables false
set_option linter.unusedSimpArgs false
namespace Go.Proofs.YtokbmihjpllgpaaDoor.utfStream
open Go.ChangeShapes Go.WideShapes Go.ChangeAt Go.RowKit Go.Lib Go.ChangeMaps

theorem own : ownKnob Tryd.prog.godebug = none := by kernel_rfl

theorem laidOut : laidOutB Tryd.prog = true := by kernel_rfl
theorem bulk_lits (H : Type) (l : List Int) : l.length ≤ Rows.uptoBulkAll (lits (H := H) .i64 l) := by
  induction l with
  | nil => simp [lits, Rows.uptoBulkAll]
  | cons x l ih => simp only [lits, List.map_cons, Rows.uptoBulkAll, List.length_cons, Rows.uptoBulk] at ih ⊢; omega

theorem contract (H : Type) (enc : TypeId × Value → H) (W : World) (base : Nat) (args : Array Value) (ds gs : List (DataW H)) (before : List MemPlace)
    (hval : ∀ (j : Nat) t v, Tryd.f4.params[j]? = some t → args[j]? = some v → Value.okWide Tryd.prog W .any base t v)
    (hW : DataW.Whole enc Tryd.prog Tryd.f4.params.toList Rows.utfStreamSpec.vars false W args.toList ds gs before) (hk : Rows.uptoSmall H (ds ++ gs) = true) (hL : laidMetH Tryd.prog Rows.utfStreamUptoRow.laid W) :
    Calls Tryd.prog 4 args W fun e W' => ∃ v, e = .returned v ∧ Rows.utfStreamSpec.post enc Tryd.prog Tryd.f4 false true false false W args v W' := by
  have hW' := hW
  obtain ⟨p, q, hA0, hV, rfl, hfz, hnd⟩ := hW
  have hA : DataW.TrodAll enc Tryd.prog W 0 (fun _ => true) true Tryd.f4.params.toList args.toList ds p := hA0
  rw [Tryd.params4] at hA hval
  obtain ⟨v0, vs0, d0, ds0, p0, q0, hargs, rfl, rfl, h0, r0⟩ := trodAll_cons hA
  obtain ⟨v1, vs1, d1, ds1, p1, q1, rfl, rfl, rfl, h1, r1⟩ := trodAll_cons r0
  obtain ⟨rfl, rfl, rfl⟩ := trodAll_nil r1
  obtain rfl : args = #[v0, v1] := by cases args; simp_all
  obtain ⟨rfl, rfl⟩ := trodVars_none hV
  obtain ⟨x0, rfl, rfl, rfl, w0⟩ := open_string Tryd.underlying9 (hval 0 9 v0 rfl rfl) h0
  obtain ⟨A, len, cap, rfl⟩ := okWide_slice Tryd.underlying23 (hval 1 23 v1 rfl rfl)
  have h1' := h1
  obtain ⟨fuel, hf⟩ := h1
  clear hA0
  simp only [List.append_nil, List.nil_append] at hW'
  have hbk := of_decide_eq_true hk
  simp only [Rows.uptoBulkAll, Rows.uptoBulk, List.append_nil, List.cons_append, List.nil_append] at hbk
  have z0 := U.size_eq x0
  have T : Tabs W := tabs_of_reads (Lib.laidMet.reads (l := Rows.utfStreamUptoRow.laid) hL (.tail _ (.head _))) (Lib.laidMet.reads (l := Rows.utfStreamUptoRow.laid) hL (.head _))
  have key : ∃ l : List Int, l.length ≤ 1048576 ∧ ArgI W (.slice A len cap) l := by
    rcases open_ints Tryd.underlying23 Tryd.underlying3 (by kernel_rfl) hf with ⟨hcs, hx⟩ | ⟨a, len', cap', zs, hcs, _, hl, hm, hz, hx, hcell, hwf⟩
    · simp [Value.cells] at hcs
      obtain ⟨rfl, rfl, rfl⟩ := hcs
      exact ⟨[], by simp, none, 0, rfl, fun h => absurd h (by simp)⟩
    · simp [Value.cells] at hcs
      obtain ⟨rfl, rfl, rfl⟩ := hcs
      simp only [Prod.mk.injEq] at hx
      obtain ⟨rfl, rfl⟩ := hx
      simp only [if_true] at hz
      have hlz : (zs.take len).length = len := by rw [List.length_take]; omega
      have hcl : ∀ (j : Nat) (x : Int), (zs.take len)[j]? = some x → W.cell? (a.add j) = some (.int .i64 x) := fun j x hx => by
        have hj : j < (zs.take len).length := (List.getElem?_eq_some_iff.1 hx).1
        rw [hcell j (by omega)]
        rw [List.getElem?_take] at hx
        split at hx
        · rw [List.getD_eq_getElem?_getD, hx]; rfl
        · cases hx
      refine ⟨zs.take len, ?_, some a, cap, by rw [hlz], fun h => ?_⟩
      · have hb := bulk_lits H (zs.take len)
        simp only [Rows.uptoBulk] at hbk
        omega
      · obtain ⟨b, off, spot⟩ := a
        obtain ⟨x, hx⟩ : ∃ s, (zs.take len)[0]? = some s := ⟨_, List.getElem?_eq_getElem h⟩
        have hspot : spot = none := by simpa [Addr.add] using World.cell?_spot (hcl 0 x hx)
        subst hspot
        exact ⟨b, off, rfl, fun j x hx => by have := hcl j x hx; rwa [Go.WideShapes.add_plain] at this⟩
  obtain ⟨l, hl1, hl3⟩ := key
  refine (utfStream_law x0 (.slice A len cap) l (by omega) hl1 W hl3 T).mono fun e W' ⟨he, hg⟩ => ?_
  subst he
  have hlt := hW'.lt
  exact ⟨_, rfl, post_of_below (pa := p1) (pv := []) hW' (fun _ _ _ => (trodAll_cons_mk (shut_bool Tryd.underlying4 _) trodAll_mk0))
    (fun sp hsp => by
      have t := WideElems.Trod_stays (sp' := sp) laidOut (by kernel_rfl) (of_decide_eq_true (by kernel_rfl)) h1' (fun x hx => hg.same (hlt x (by simpa using hx))) (fun x hx => hsp x (by simpa using hx))
      have t2 := trodAll_cons_mk (shut_string Tryd.underlying9 w0) (trodAll_cons_mk t trodAll_mk0)
      rw [List.append_nil] at t2
      exact t2) (fun _ _ => rfl) (by simp)
    hg (ok_one (by kernel_rfl) rfl (okWide_bool_mk Tryd.underlying4 _))⟩

def put (l : List Value) (o : Obj) : Obj := match o with
  | .cells _ t frozen => .cells l.toArray t frozen
  | o => o
/-- A world for the witness: the two tables hold what the row lists. -/
noncomputable def laidWorld (os : Os) : World :=
  { World.holding Tryd.prog os ⟨#[], #[], []⟩ with heap := ((World.holding Tryd.prog os ⟨#[], #[], []⟩).heap.modify 0 (put ((List.range 256).map fun b => Value.int .u8 (U.FF b : Int)))).modify 1 (put (([128, 191, 160, 191, 128, 159, 144, 191, 128, 143, 0, 0, 0, 0, 0, 0, 0, 0, 0, 0, 0, 0, 0, 0, 0, 0, 0, 0, 0, 0, 0, 0] : List Int).map fun z => Value.int .u8 z)) }
theorem laid_met (os : Os) : laidMet Tryd.prog Rows.utfStreamUptoRow.laid ((laidWorld os).forCall (fun _ _ => 0) ⟨#[], #[.string ⟨#[]⟩, .slice none 0 0], []⟩).memory :=
  laidMet_of_run' 8 (by kernel_rfl) (by kernel_rfl)
theorem reads (os : Os) {H : Type} (enc : TypeId × Value → H) : ∃ places, DataW.whole enc Tryd.prog ((laidWorld os).forCall (fun _ _ => 0) ⟨#[], #[.string ⟨#[]⟩, .slice none 0 0], []⟩).memory Tryd.f4.params.toList Rows.utfStreamSpec.vars false #[Value.string ⟨#[]⟩, .slice none 0 0].toList 8 = some ([.lit (.string []), .nil], [], places) :=
  ⟨[], by kernel_rfl⟩

set_option maxRecDepth 100000 in
theorem lifted (os : Os) (started : os.Started) (H : Type) (enc : TypeId × Value → H) (F : Stop.Interp) :
    ReturnsInHanded {} Tryd.checked os 4 .any ((Rows.OpenSpec.upto Rows.utfStreamSpec).preRow enc Tryd.prog Tryd.f4 Rows.utfStreamUptoRow.domain false Rows.utfStreamUptoRow.laid) (((Rows.OpenSpec.upto Rows.utfStreamSpec).at F).post enc Tryd.prog Tryd.f4 false true false false) := by
  obtain ⟨places, hx⟩ := reads os enc
  refine returnsInHanded_of_row (C := Tryd.checked) (s := Rows.OpenSpec.upto Rows.utfStreamSpec) own started (by kernel_rfl) Tryd.func4
    (witness_row_at (enc := enc) (C := Tryd.checked) false (laidWorld os) #[.string ⟨#[]⟩, .slice none 0 0] rfl (by kernel_rfl) (by kernel_rfl) (by kernel_rfl)
      (OpenSpec.preRow_of_cond 8 hx (by kernel_rfl) (fun k hk => by cases hk; kernel_rfl) (by kernel_rfl) (laid_met os))) ?_
  intro W base args ds gs before hval hW k1 k2 k3 hL k5 k6

  exact contract H enc W base args ds gs before hval hW (k2 _ rfl) hL

theorem saidUpto : Rows.UtfStreamUptoSaid :=
  OpenClaim.holds_of_cond 4 Tryd.f4 rfl rfl rfl rfl rfl rfl rfl ⟨rfl, rfl, rfl, rfl, rfl⟩ rfl rfl rfl rfl rfl (by kernel_rfl) Tryd.func4 (by kernel_rfl)
    (of_decide_eq_true (by kernel_rfl)) (by unfold Func.isWrapper; first | (rw [if_pos (by decide +kernel)]; kernel_rfl) | (rw [if_neg (by decide +kernel)]; exact ⟨rfl, rfl⟩))
    (fun os started H enc _ F => by rw [OpenClaim.pre_eq_preRow]; exact lifted os started H enc F)

theorem plain (f : FuncId) (fn : Func) (hf : Tryd.pinned.checked.prog.funcNamed "surtitle/surtitlelaw1.UtfStream" = some f) (hfn : Tryd.pinned.checked.prog.funcs[f]? = some fn) :
    false = Tryd.pinned.checked.prog.looks [] ∧ ∀ (j : Nat) t, fn.params[j]? = some t → Tryd.pinned.checked.prog.wantsStandIn t = false := by
  obtain rfl : f = 4 := Option.some.inj ((show Tryd.prog.funcNamed "surtitle/surtitlelaw1.UtfStream" = some 4 by kernel_rfl).symm.trans hf) |>.symm
  obtain rfl : fn = Tryd.f4 := (Option.some.inj (Tryd.func4.symm.trans hfn)).symm
  refine ⟨by kernel_rfl, fun j t ht => ?_⟩
  rw [Tryd.params4] at ht
  match j, ht with
  | 0, ht => cases ht; exact (show Tryd.prog.wantsStandIn 9 = false by kernel_rfl)
  | 1, ht => cases ht; exact (show Tryd.prog.wantsStandIn 23 = false by kernel_rfl)
  | j + 2, ht => simp at ht

theorem proved : Rows.UtfStreamUptoCardSaid :=
  Claim7.holds_tied_plain_at .later [] _ _ _ _ saidUpto (fun _ h => by cases h) (by kernel_rfl) (fun _ h => by cases h) utfStreamUpto_row_tie rfl ⟨rfl, rfl⟩ (by kernel_rfl) rfl plain (by kernel_rfl)
end Go.Proofs.YtokbmihjpllgpaaDoor.utfStream
