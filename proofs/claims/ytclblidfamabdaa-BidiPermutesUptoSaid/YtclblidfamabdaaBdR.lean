/- bidi.row: the items of a row. -/
import Derived.Test.YtclblidfamabdaaBdN
set_option linter.unusedVariables false
set_option linter.unusedSimpArgs false
namespace Go.Proofs.Ytclblidfamabdaa
open Go.RowKit Go.Shelf Go.Lib Go.BigFrame
attribute [local go_sem] Oper.semAt_some

/-- Where an isolate closes, as the program has it. -/
def clI (cl : Nat → Nat) (j : Nat) : Int := if cl j = 0 then -1 else (cl j : Int)
def itI (cl : Nat → Nat) (frm : Nat) (j : Nat) : Int := (B.itm cl frm j : Int)

set_option maxRecDepth 1000000 in
theorem row_any (frm to N : Nat) (cv : Value) (cl : Nat → Nat) (w : World) (hN : N ≤ 4194304) (hto : to ≤ N) (hfr : frm ≤ N) (hup : B.Up cl) (hcl : ∀ x, x < N → cl x ≤ N) (hc : Rd w cv (clI cl) N) :
    Calls Try.prog 43 #[.int .i64 (frm : Int), .int .i64 (to : Int), cv] w fun e w' => ∃ v, e = .returned v ∧ Below w.heap.size w w' ∧ w'.ownsRow w.heap.size 3 1 v (B.cnt cl frm to) (ns (itI cl frm) (B.cnt cl frm to)) := by
  obtain ⟨i0, hi, hz0, hz1, hz2⟩ := info_parts Try.infoIn
  have hcnt := B.cnt_le hup frm to
  have hsp := B.cnt_spec hup frm to
  obtain ⟨cnt, hcn⟩ : ∃ c, B.cnt cl frm to = c := ⟨_, rfl⟩
  rw [hcn] at hcnt hsp ⊢
  have HSP := Lib.hid hsp
  have HUP := Lib.hid hup
  have HCL := Lib.hid hcl
  have HC := Lib.hid hc
  obtain ⟨CA, cc, rfl, hcl2, hc1⟩ := hc
  have HC1 := Lib.hid hc1
  clear hsp hup hcl hc1 hcn
  go_enter Try.func43, Try.ntmps43
  go_wp2
  go_loopw [7, 8] (fun ov iv wr => ∃ m i : Nat, iv = .int .i64 (i : Int) ∧ i = B.itm cl frm m ∧ i ≤ N ∧ m ≤ cnt ∧ Below w.heap.size w wr ∧ wr.ownsRow w.heap.size 3 1 ov m (ns (itI cl frm) m)) (fun _ iv _ => to - (intOf iv).toNat)
  case atStart => exact ⟨0, frm, rfl, rfl, hfr, Nat.zero_le _, Below.refl _ _, World.ownsRow_nil _ _ _ _⟩
  case round =>
    obtain ⟨m, i, rfl, him, hiN, hm, hB, hrow⟩ := hrel
    by_cases hlt : i < to
    · have hmc : m < cnt := (HSP.out m).2 (by rw [← him]; exact hlt)
      obtain ⟨cg, co, rfl, hcc⟩ := HC1.out (by omega)
      have hci := hcc i (by omega)
      have c0 : wr.cell? ⟨cg, co + i, none⟩ = some (.int .i64 (clI cl i)) := (World.cell?_of_block (hB.block _ (World.block_lt_of_cell? _ _ hci))).trans hci
      have hcg : cg < w.heap.size := World.block_lt_of_cell? _ _ hci
      have hBs := hB.size
      have hnx : B.itm cl frm (m + 1) = B.nx cl i := by rw [him]; rfl
      have hup := B.nx_lt HUP.out i
      have hcN := HCL.out i (by omega)
      have HX := Lib.hid (And.intro him (And.intro hnx (And.intro hB hrow)))
      have hns : ns (itI cl frm) (m + 1) = ns (itI cl frm) m ++ [.int .i64 (i : Int)] := by rw [ns_succ, him]; rfl
      have HNS := Lib.hid hns
      have hlen := ns_length (itI cl frm) m
      clear him hnx hB hcc hci hns hlen
      have K : Hid (∀ w2, (wr.alloc (.cells #[.int .i64 (i : Int)] 3)).grownBy w2 u7.ownBlock → w2.cell? ⟨cg, co + i, none⟩ = some (.int .i64 (clI cl i)) ∧ Below w.heap.size w w2) := Lib.hid (fun w2 hg => by
        refine ⟨(World.cell?_of_block (hg.block _ (by simp; omega) (fun e => by have := (hrow.lt cg e.symm).1; omega))).trans ((World.cell?_of_block (Below.heap_alloc wr _ cg (by omega))).trans c0), ?_⟩
        exact (HX.out.2.2.1.alloc hBs _).grown hg (by simp; omega) (fun q e => (hrow.lt q e).1))
      by_cases hz : cl i = 0
      · have e1 : clI cl i = -1 := if_pos hz
        have e2 : B.nx cl i = i + 1 := if_pos hz
        rw [e1] at K c0
        have HE := Lib.hid e2
        clear e1 e2 hz c0
        go_wp2_with (at_builtin; go_must (refine wpList_append_own_at _ rfl _ _ 29 rfl w.heap.size 3 i0 _ 1 8 Try.underlying29 hi hz0 hz1 hz2 rfl (by decide) _ _ _ rfl (hrow.alloc _) ⟨wr.heap.size, 0, none⟩ 1 1 [.int .i64 (i : Int)] rfl rfl (World.news_of_block (World.alloc_heap_new wr _)) (by simp [Value.oneCell']) (by unfold maxLen; omega) (by omega) (by simp; omega) ?_); intro v' w2 hown hg _ _; obtain ⟨k0, k1⟩ := K.out _ hg; have HK := Lib.hid k1; clear k1)
        go_roundw
        case rel => exact ⟨m + 1, i + 1, by go_num, by rw [HX.out.2.1, HE.out], by omega, hmc, HK.out, by rw [HNS.out]; exact hown⟩
        case measure => simp [intOf]; omega
      · obtain ⟨q, hq⟩ : ∃ q, cl i = q := ⟨_, rfl⟩
        have e1 : clI cl i = (q : Int) := by unfold clI; rw [if_neg hz, hq]
        have e2 : B.nx cl i = q := by unfold B.nx; rw [if_neg hz, hq]
        rw [e1] at K c0
        rw [hq] at hcN hz
        have hiq := HUP.out i (by rw [hq]; exact hz)
        rw [hq] at hiq
        rw [e2] at hup
        have HE := Lib.hid e2
        have hq1 : 1 ≤ q := by omega
        clear e1 e2 hq c0
        go_wp2_with (at_builtin; go_must (refine wpList_append_own_at _ rfl _ _ 29 rfl w.heap.size 3 i0 _ 1 8 Try.underlying29 hi hz0 hz1 hz2 rfl (by decide) _ _ _ rfl (hrow.alloc _) ⟨wr.heap.size, 0, none⟩ 1 1 [.int .i64 (i : Int)] rfl rfl (World.news_of_block (World.alloc_heap_new wr _)) (by simp [Value.oneCell']) (by unfold maxLen; omega) (by omega) (by simp; omega) ?_); intro v' w2 hown hg _ _; obtain ⟨k0, k1⟩ := K.out _ hg; have HK := Lib.hid k1; clear k1)
        go_roundw
        case rel => exact ⟨m + 1, q, by go_num, by rw [HX.out.2.1, HE.out], hcN, hmc, HK.out, by rw [HNS.out]; exact hown⟩
        case measure => simp [intOf]; omega
    · have hmc : m = cnt := by
        rcases Nat.lt_or_ge m cnt with h | h
        · have := (HSP.out m).1 h; omega
        · omega
      subst hmc
      clear him
      go_wp2
      go_ret
      exact ⟨_, rfl, hB, hrow⟩
end Go.Proofs.Ytclblidfamabdaa
