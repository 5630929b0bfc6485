/- The row of UtfPieces. Turned from the kit's toy of an Upto statement. -/
import Derived.Test.YtokbmihjpllgpaaDoorLawPieces
import Derived.Test.YtokbmihjpllgpaaDoorPost
import Derived.Test.YtokbmihjpllgpaaDoorCards
import Derived.Test.YtokbmihjpllgpaaDoorTie
import Derived.Test.YtokbmihjpllgpaaDoorTabs
import Derived.Deep.DeepHandedRow
import Derived.ChangeMaps5
import Derived.WalkKit
import Derived.ProofKit
import Derived.OpenShut
import Derived.JoinedCond
import Derived.Carry
import Derived.Deep.Matrix
set_option linter.unusedVariables false
set_option linter.unusedSimpArgs false
namespace Go.Proofs.YtokbmihjpllgpaaDoor.utfPieces
open Go.Deep Go.ChangeShapes Go.WideShapes Go.ChangeAt Go.RowKit Go.Lib Go.ChangeMaps

theorem own : ownKnob Tryd.prog.godebug = none := by kernel_rfl

theorem laidOut : laidOutB Tryd.prog = true := by kernel_rfl
theorem bulk_lits (H : Type) (l : List Int) : l.length ≤ Rows.uptoBulkAll (lits (H := H) .i64 l) := by
  induction l with
  | nil => simp [lits, Rows.uptoBulkAll]
  | cons x l ih => simp only [lits, List.map_cons, Rows.uptoBulkAll, List.length_cons, Rows.uptoBulk] at ih ⊢; omega

theorem bulk_pos (H : Type) (d : DataW H) : 1 ≤ Rows.uptoBulk d := by
  cases d with
  | lit l => cases l <;> simp [Rows.uptoBulk]
  | _ => simp [Rows.uptoBulk]
theorem bulk_mem (H : Type) (ds : List (DataW H)) : ∀ d ∈ ds, Rows.uptoBulk d ≤ Rows.uptoBulkAll ds := by
  induction ds with
  | nil => intro d h; cases h
  | cons x r ih =>
    intro d h
    simp only [Rows.uptoBulkAll]
    rcases List.mem_cons.1 h with rfl | h
    · omega
    · have := ih d h; omega
theorem bulk_len (H : Type) (ds : List (DataW H)) : ds.length ≤ Rows.uptoBulkAll ds := by
  induction ds with
  | nil => simp
  | cons x r ih => simp only [Rows.uptoBulkAll, List.length_cons]; have := bulk_pos H x; omega
theorem bulk_lits8 (H : Type) (l : List Int) : l.length ≤ Rows.uptoBulkAll (lits (H := H) .u8 l) := by
  have := bulk_len H (lits (H := H) .u8 l)
  simpa [lits] using this
theorem bulk_row (H : Type) (A : Option Addr) (L : Nat) (Z : List Int) (hA : A = none → L = 0) (hL : L ≤ Z.length) : L ≤ Rows.uptoBulk (intRow (H := H) .u8 A L Z) := by
  cases A with
  | none => rw [hA rfl]; exact Nat.zero_le _
  | some a =>
    simp only [intRow, Rows.uptoBulk]
    have := bulk_lits8 H (Z.take L)
    rw [List.length_take, Nat.min_eq_left hL] at this
    omega
/-- A number as a byte. -/
def toB (n : Int) : UInt8 := UInt8.ofNat n.toNat
theorem toB_is (n : Int) (h : (Lit.int .u8 n).wf = true) : ((toB n).toNat : Int) = n := by
  have h' : 0 ≤ n ∧ n ≤ 255 := by simpa [Lit.wf, IntKind.min, IntKind.max, IntKind.signed, IntKind.bits] using h
  unfold toB
  rw [UInt8.toNat_ofNat']
  omega

theorem contract (H : Type) (enc : TypeId × Value → H) (W : World) (base : Nat) (args : Array Value) (ds gs : List (DataW H)) (before : List MemPlace)
    (hval : ∀ (j : Nat) t v, Tryd.f3.params[j]? = some t → args[j]? = some v → Value.okWide Tryd.prog W .any base t v)
    (hW : DataW.Whole enc Tryd.prog Tryd.f3.params.toList Rows.utfPiecesSpec.vars false W args.toList ds gs before) (hk : Rows.uptoSmall H (ds ++ gs) = true) (hL : laidMetH Tryd.prog Rows.utfPiecesUptoRow.laid W) :
    Calls Tryd.prog 3 args W fun e W' => ∃ v, e = .returned v ∧ Rows.utfPiecesSpec.post enc Tryd.prog Tryd.f3 false true false false W args v W' := by
  have hW' := hW
  obtain ⟨p, q, hA0, hV, rfl, hfz, hnd⟩ := hW
  have hA : DataW.TrodAll enc Tryd.prog W 0 (fun _ => true) true Tryd.f3.params.toList args.toList ds p := hA0
  rw [Tryd.params3] at hA hval
  obtain ⟨v0, vs0, d0, ds0, p0, q0, hargs, rfl, rfl, h0, r0⟩ := trodAll_cons hA
  obtain ⟨v1, vs1, d1, ds1, p1, q1, rfl, rfl, rfl, h1, r1⟩ := trodAll_cons r0
  obtain ⟨rfl, rfl, rfl⟩ := trodAll_nil r1
  obtain rfl : args = #[v0, v1] := by cases args; simp_all
  obtain ⟨rfl, rfl⟩ := trodVars_none hV
  obtain ⟨A0, len0, cap0, rfl⟩ := okWide_slice Tryd.underlying22 (hval 0 22 v0 rfl rfl)
  have h0' := h0
  obtain ⟨fuel0, hf0⟩ := h0
  obtain ⟨A, len, cap, rfl⟩ := okWide_slice Tryd.underlying23 (hval 1 23 v1 rfl rfl)
  have h1' := h1
  obtain ⟨fuel, hf⟩ := h1
  clear hA0
  simp only [List.append_nil] at hW'
  have hbk := of_decide_eq_true hk
  simp only [Rows.uptoBulkAll, Rows.uptoBulk, List.append_nil, List.cons_append, List.nil_append] at hbk
  have T : Tabs W := tabs_of_reads (Lib.laidMet.reads (l := Rows.utfPiecesUptoRow.laid) hL (.tail _ (.head _))) (Lib.laidMet.reads (l := Rows.utfPiecesUptoRow.laid) hL (.head _))
  have key0 : ∃ ps : List (List UInt8), ps.length ≤ 1048576 ∧ (∀ l ∈ ps, l.length ≤ 1048576) ∧ ArgBB W (.slice A0 len0 cap0) ps := by
    rcases open_int_rows Tryd.underlying22 Tryd.underlying27 Tryd.underlying5 (by kernel_rfl) (by kernel_rfl) hf0 with ⟨hcs, hx⟩ | ⟨a, len', cap', RA, RL, RC, RZ, hcs, _, hl, hm, hx, hrow⟩
    · simp [Value.cells] at hcs
      obtain ⟨rfl, rfl, rfl⟩ := hcs
      exact ⟨[], by simp, (fun _ h => by cases h), none, 0, rfl, fun h => absurd h (by simp)⟩
    · simp [Value.cells] at hcs
      obtain ⟨rfl, rfl, rfl⟩ := hcs
      simp only [Prod.mk.injEq] at hx
      obtain ⟨rfl, rfl⟩ := hx
      have hbk' := hbk
      simp only [Rows.uptoBulk] at hbk'
      have b1 := bulk_len H ((List.range len0).map fun r => intRow (H := H) .u8 (RA r) (RL r) (RZ r))
      rw [List.length_map, List.length_range] at b1
      have hL : ∀ r, r < len0 → RL r ≤ 1048576 := fun r hr => by
        obtain ⟨_, q1, q2, q3, _, q5, _⟩ := hrow r (by omega)
        have b2 := bulk_mem H _ _ (List.mem_map.2 ⟨r, List.mem_range.2 hr, rfl⟩ : intRow (H := H) .u8 (RA r) (RL r) (RZ r) ∈ (List.range len0).map fun r => intRow (H := H) .u8 (RA r) (RL r) (RZ r))
        have b3 := bulk_row H (RA r) (RL r) (RZ r) (fun e => by have := q5 e; omega) (by omega)
        omega
      have hll : ∀ r, r < len0 → (((RZ r).take (RL r)).map toB).length = RL r := fun r hr => by
        obtain ⟨_, q1, q2, q3, _⟩ := hrow r (by omega)
        rw [List.length_map, List.length_take]; omega
      refine ⟨(List.range len0).map fun r => ((RZ r).take (RL r)).map toB, by rw [List.length_map, List.length_range]; omega, fun l h => ?_, some a, cap0, by rw [List.length_map, List.length_range], fun h => ?_⟩
      · obtain ⟨r, hr, rfl⟩ := List.mem_map.1 h
        have hr' := List.mem_range.1 hr
        rw [hll r hr']; exact hL r hr'
      · rw [List.length_map, List.length_range] at h
        obtain ⟨b, off, spot⟩ := a
        have c0 := (hrow 0 (by omega)).1
        have hspot : spot = none := by simpa [Addr.add] using World.cell?_spot c0
        subst hspot
        refine ⟨b, off, rfl, fun j l hj => ?_⟩
        rw [List.getElem?_map] at hj
        obtain ⟨r, hr, rfl⟩ := Option.map_eq_some_iff.1 hj
        obtain ⟨hr1, hr2⟩ := List.getElem?_eq_some_iff.1 hr
        simp only [List.length_range] at hr1
        obtain rfl : j = r := by simpa using hr2
        obtain ⟨q0, q1, q2, q3, q4, q5, q6⟩ := hrow j (by omega)
        rw [Go.WideShapes.add_plain] at q0
        refine ⟨_, q0, ?_⟩
        by_cases hz : RL j = 0
        · exact .inr ⟨by rw [hz]; simp, RA j, RC j, by rw [hz]⟩
        · left
          right
          cases hA : RA j with
          | none => have := q5 hA; omega
          | some a' =>
            obtain ⟨_, hc⟩ := q6 a' hA
            obtain ⟨b', off', spot'⟩ := a'
            have hspot' : spot' = none := by simpa [Addr.add] using World.cell?_spot (hc 0 (by omega))
            subst hspot'
            refine ⟨b', off', RC j, by rw [hll j hr1], by rw [hll j hr1]; exact q1, fun k x hx => ?_⟩
            rw [List.getElem?_map] at hx
            obtain ⟨z, hz', rfl⟩ := Option.map_eq_some_iff.1 hx
            have hk := (List.getElem?_eq_some_iff.1 hz').1
            rw [List.length_take] at hk
            have hck := hc k (by omega)
            rw [Go.WideShapes.add_plain] at hck
            rw [hck, toB_is z (q4 z (List.mem_of_mem_take (List.mem_of_getElem? hz')))]
            rw [List.getElem?_take] at hz'
            split at hz'
            · rw [List.getD_eq_getElem?_getD, hz']; rfl
            · cases hz'
  have key : ∃ l : List Int, l.length ≤ 1048576 ∧ ArgI W (.slice A len cap) l := by
    rcases open_ints Tryd.underlying23 Tryd.underlying3 (by kernel_rfl) hf with ⟨hcs, hx⟩ | ⟨a, len', cap', zs, hcs, _, hl, hm, hz, hx, hcell, hwf⟩
    · simp [Value.cells] at hcs
      obtain ⟨rfl, rfl, rfl⟩ := hcs
      exact ⟨[], by simp, none, 0, rfl, fun h => absurd h (by simp)⟩
    · simp [Value.cells] at hcs
      obtain ⟨rfl, rfl, rfl⟩ := hcs
      simp only [Prod.mk.injEq] at hx
      obtain ⟨rfl, rfl⟩ := hx
      simp only [if_true] at hz
      have hlz : (zs.take len).length = len := by rw [List.length_take]; omega
      have hcl : ∀ (j : Nat) (x : Int), (zs.take len)[j]? = some x → W.cell? (a.add j) = some (.int .i64 x) := fun j x hx => by
        have hj : j < (zs.take len).length := (List.getElem?_eq_some_iff.1 hx).1
        rw [hcell j (by omega)]
        rw [List.getElem?_take] at hx
        split at hx
        · rw [List.getD_eq_getElem?_getD, hx]; rfl
        · cases hx
      refine ⟨zs.take len, ?_, some a, cap, by rw [hlz], fun h => ?_⟩
      · have hb := bulk_lits H (zs.take len)
        simp only [Rows.uptoBulk] at hbk
        omega
      · obtain ⟨b, off, spot⟩ := a
        obtain ⟨x, hx⟩ : ∃ s, (zs.take len)[0]? = some s := ⟨_, List.getElem?_eq_getElem h⟩
        have hspot : spot = none := by simpa [Addr.add] using World.cell?_spot (hcl 0 x hx)
        subst hspot
        exact ⟨b, off, rfl, fun j x hx => by have := hcl j x hx; rwa [Go.WideShapes.add_plain] at this⟩
  obtain ⟨l, hl1, hl3⟩ := key
  obtain ⟨ps, hp1, hp2, hp3⟩ := key0
  refine (utfPieces_law (.slice A0 len0 cap0) (.slice A len cap) ps l hp1 hp2 hl1 W hp3 hl3 T).mono fun e W' ⟨he, hg⟩ => ?_
  subst he
  have hlt := hW'.lt
  exact ⟨_, rfl, post_of_below (pa := p0 ++ p1) (pv := []) hW' (fun _ _ _ => (trodAll_cons_mk (shut_bool Tryd.underlying4 _) trodAll_mk0))
    (fun sp hsp => by
      have t := WideElems.Trod_stays (sp' := sp) laidOut (by kernel_rfl) (of_decide_eq_true (by kernel_rfl)) h0' (fun x hx => hg.same (hlt x (by simp [hx]))) (fun x hx => hsp x (by simp [hx]))
      have t1 := WideElems.Trod_stays (sp' := sp) laidOut (by kernel_rfl) (of_decide_eq_true (by kernel_rfl)) h1' (fun x hx => hg.same (hlt x (by simp [hx]))) (fun x hx => hsp x (by simp [hx]))
      have t2 := trodAll_cons_mk t (trodAll_cons_mk t1 trodAll_mk0)
      rw [List.append_nil] at t2
      exact t2) (fun _ _ => rfl) (by simp)
    hg (ok_one (by kernel_rfl) rfl (okWide_bool_mk Tryd.underlying4 _))⟩

def put (l : List Value) (o : Obj) : Obj := match o with
  | .cells _ t frozen => .cells l.toArray t frozen
  | o => o
/-- A world for the witness: the two tables hold what the row lists. -/
noncomputable def laidWorld (os : Os) : World :=
  { World.holding Tryd.prog os ⟨#[], #[], []⟩ with heap := ((World.holding Tryd.prog os ⟨#[], #[], []⟩).heap.modify 0 (put ((List.range 256).map fun b => Value.int .u8 (U.FF b : Int)))).modify 1 (put (([128, 191, 160, 191, 128, 159, 144, 191, 128, 143, 0, 0, 0, 0, 0, 0, 0, 0, 0, 0, 0, 0, 0, 0, 0, 0, 0, 0, 0, 0, 0, 0] : List Int).map fun z => Value.int .u8 z)) }
theorem laid_met (os : Os) : laidMet Tryd.prog Rows.utfPiecesUptoRow.laid ((laidWorld os).forCall (fun _ _ => 0) ⟨#[], #[.slice none 0 0, .slice none 0 0], []⟩).memory :=
  laidMet_of_run' 8 (by kernel_rfl) (by kernel_rfl)
theorem reads (os : Os) {H : Type} (enc : TypeId × Value → H) : ∃ places, DataW.whole enc Tryd.prog ((laidWorld os).forCall (fun _ _ => 0) ⟨#[], #[.slice none 0 0, .slice none 0 0], []⟩).memory Tryd.f3.params.toList Rows.utfPiecesSpec.vars false #[Value.slice none 0 0, .slice none 0 0].toList 8 = some ([.nil, .nil], [], places) :=
  ⟨[], by kernel_rfl⟩

set_option maxRecDepth 100000 in
theorem lifted (os : Os) (started : os.Started) (H : Type) (enc : TypeId × Value → H) (F : Stop.Interp) :
    ReturnsInHanded {} Tryd.checked os 3 .any ((Rows.OpenSpec.upto Rows.utfPiecesSpec).preRow enc Tryd.prog Tryd.f3 Rows.utfPiecesUptoRow.domain false Rows.utfPiecesUptoRow.laid) (((Rows.OpenSpec.upto Rows.utfPiecesSpec).at F).post enc Tryd.prog Tryd.f3 false true false false) := by
  obtain ⟨places, hx⟩ := reads os enc
  refine returnsInHanded_of_row (C := Tryd.checked) (s := Rows.OpenSpec.upto Rows.utfPiecesSpec) own started (by kernel_rfl) Tryd.func3
    (witness_row_at (enc := enc) (C := Tryd.checked) false (laidWorld os) #[.slice none 0 0, .slice none 0 0] rfl (by kernel_rfl) (by kernel_rfl) (by kernel_rfl)
      (OpenSpec.preRow_of_cond 8 hx (by kernel_rfl) (fun k hk => by cases hk; kernel_rfl) (by kernel_rfl) (laid_met os))) ?_
  intro W base args ds gs before hval hW k1 k2 k3 hL k5 k6

  exact contract H enc W base args ds gs before hval hW (k2 _ rfl) hL

theorem saidUpto : Rows.UtfPiecesUptoSaid :=
  OpenClaim.holds_of_cond 3 Tryd.f3 rfl rfl rfl rfl rfl rfl rfl ⟨rfl, rfl, rfl, rfl, rfl⟩ rfl rfl rfl rfl rfl (by kernel_rfl) Tryd.func3 (by kernel_rfl)
    (of_decide_eq_true (by kernel_rfl)) (by unfold Func.isWrapper; first | (rw [if_pos (by decide +kernel)]; kernel_rfl) | (rw [if_neg (by decide +kernel)]; exact ⟨rfl, rfl⟩))
    (fun os started H enc _ F => by rw [OpenClaim.pre_eq_preRow]; exact lifted os started H enc F)

theorem plain (f : FuncId) (fn : Func) (hf : Tryd.pinned.checked.prog.funcNamed "surtitle/surtitlelaw1.UtfPieces" = some f) (hfn : Tryd.pinned.checked.prog.funcs[f]? = some fn) :
    false = Tryd.pinned.checked.prog.looks [] ∧ ∀ (j : Nat) t, fn.params[j]? = some t → Tryd.pinned.checked.prog.wantsStandIn t = false := by
  obtain rfl : f = 3 := Option.some.inj ((show Tryd.prog.funcNamed "surtitle/surtitlelaw1.UtfPieces" = some 3 by kernel_rfl).symm.trans hf) |>.symm
  obtain rfl : fn = Tryd.f3 := (Option.some.inj (Tryd.func3.symm.trans hfn)).symm
  refine ⟨by kernel_rfl, fun j t ht => ?_⟩
  rw [Tryd.params3] at ht
  match j, ht with
  | 0, ht => cases ht; exact (show Tryd.prog.wantsStandIn 22 = false by kernel_rfl)
  | 1, ht => cases ht; exact (show Tryd.prog.wantsStandIn 23 = false by kernel_rfl)
  | j + 2, ht => simp at ht

theorem proved : Rows.UtfPiecesUptoCardSaid :=
  Claim7.holds_tied_plain_at .later [] _ _ _ _ saidUpto (fun _ h => by cases h) (by kernel_rfl) (fun _ h => by cases h) utfPiecesUpto_row_tie rfl ⟨rfl, rfl⟩ (by kernel_rfl) rfl plain (by kernel_rfl)
end Go.Proofs.YtokbmihjpllgpaaDoor.utfPieces
