/- The document's signs: runes, places. -/
import Derived.Test.YtclblidfamabdaaCellJ
import Derived.Deep.AppendLies
set_option linter.unusedVariables false
set_option linter.unusedSimpArgs false
namespace Go.Proofs.Ytclblidfamabdaa
open Go.RowKit Go.Shelf Go.Lib Go.BigFrame
attribute [local go_sem] Oper.semAt_some

def runesV (l : List U.Tk) : List Value := l.map fun t => .int .i32 (t.1 : Int)
def plsV (l : List U.Tk) (n : Nat) : List Value := (List.range n).map fun k => .int .i64 (C.pl l k : Int)
theorem runesV_snoc (l : List U.Tk) (t : U.Tk) : runesV (l ++ [t]) = runesV l ++ [.int .i32 (t.1 : Int)] := by simp [runesV]
theorem plsV_succ (l : List U.Tk) (n : Nat) : plsV l (n + 1) = plsV l n ++ [.int .i64 (C.pl l n : Int)] := by simp [plsV, List.range_succ]
theorem Try.infoI32 : (Try.prog.info? 21).map (fun i => (i.zero, i.size, i.bytes)) = some (some (.int .i32 0), 1, 4) := by kernel_rfl
theorem Try.infoInt : (Try.prog.info? 3).map (fun i => (i.zero, i.size, i.bytes)) = some (some (.int .i64 0), 1, 8) := by kernel_rfl
theorem dis_kept {v1 v2 : Value} (hd : ∀ q, v1.ownBlock = some q → v2.ownBlock ≠ some q) : v2.ownBlock = none ∨ v2.ownBlock ≠ v1.ownBlock := by
  cases h : v2.ownBlock with
  | none => exact .inl rfl
  | some q =>
    refine .inr fun e => ?_
    exact hd q e.symm h

theorem dis_kept' {v1 v2 : Value} (hd : ∀ q, v1.ownBlock = some q → v2.ownBlock ≠ some q) : v1.ownBlock = none ∨ v1.ownBlock ≠ v2.ownBlock := by
  cases h : v1.ownBlock with
  | none => exact .inl rfl
  | some q => exact .inr (fun e => hd q h e.symm)

set_option maxRecDepth 1000000 in
set_option maxHeartbeats 4000000 in
theorem signsR2_any (s : ByteArray) (w : World) (hs : s.size ≤ 4194304) :
    Calls Try.prog 75 #[.string s] w fun e w' => ∃ v1 v2, e = .returned (.tuple #[v1, v2]) ∧ Below w.heap.size w w' ∧
      w'.ownsRow w.heap.size 21 1 v1 (U.toks s.data.toList).length (runesV (U.toks s.data.toList)) ∧ w'.ownsRow w.heap.size 3 1 v2 ((U.toks s.data.toList).length + 1) (plsV (U.toks s.data.toList) ((U.toks s.data.toList).length + 1)) := by
  obtain ⟨i1, hi1, ha0, ha1, ha2⟩ := info_parts Try.infoI32
  obtain ⟨i2, hi2, hb0, hb1, hb2⟩ := info_parts Try.infoInt
  have hlw := U.wsum_toks s.data.toList
  rw [← U.size_eq] at hlw
  have hll := toks_len (s := s)
  obtain ⟨l, hl⟩ : ∃ l, U.toks s.data.toList = l := ⟨_, rfl⟩
  rw [hl] at hlw hll ⊢
  have HL := Lib.hid hl
  clear hl
  go_enter Try.func75, Try.ntmps75
  go_wp2
  go_loopw [4, 5] (fun v1 v2 wr => ∃ k : Nat, k ≤ l.length ∧ C.pl l k ≤ s.size ∧ Hid (U.toks (s.data.toList.drop (C.pl l k)) = l.drop k) ∧ Below w.heap.size w wr ∧ w.heap.size + 1 ≤ wr.heap.size ∧ wr.heap[w.heap.size]? = some (.stringIter s (C.pl l k)) ∧
    wr.ownsRow (w.heap.size + 1) 21 1 v1 k (runesV (l.take k)) ∧ wr.ownsRow (w.heap.size + 1) 3 1 v2 k (plsV l k) ∧ (∀ q, v1.ownBlock = some q → v2.ownBlock ≠ some q)) (fun _ _ wr => s.size - wr.iterPos w.heap.size)
  case atStart =>
    exact ⟨0, Nat.zero_le _, by simp [C.pl, U.wsum], Lib.hid (by simp [C.pl, U.wsum, HL.out]), (Below.refl _ _).alloc (Nat.le_refl _) _, by simp [World.iter], World.iter_heap _ _ _, World.ownsRow_nil _ _ _ _, World.ownsRow_nil _ _ _ _, fun q h => by simp [Value.ownBlock] at h⟩
  case round =>
    obtain ⟨k, hk, hps, hH, hB, hsz, hit, hrow1, hrow2, hdis⟩ := hrel
    have hpos : wr.iterPos w.heap.size = C.pl l k := by simp [World.iterPos, hit]
    by_cases hp : C.pl l k < s.size
    · have hd := decode_facts hp
      have hts := toks_at hp
      have hnx : ∀ ty, (Instr.next (.pointer (some ⟨w.heap.size, 0, none⟩)) true ty).run Try.prog wr = _ := fun ty => run_next_any_at wr w.heap.size s (C.pl l k) ty hit hp
      obtain ⟨c, wd, hdec⟩ : ∃ c wd, Utf8.decode s (C.pl l k) = (c, wd) := ⟨_, _, rfl⟩
      rw [hdec] at hd hts hnx
      simp only at hd hts hnx
      have hlt : k < l.length := by
        have := congrArg List.length (hH.out.symm.trans hts)
        rw [List.length_drop, List.length_cons] at this
        omega
      have hdk : l.drop k = (c, wd) :: U.toks (s.data.toList.drop (C.pl l k + wd)) := hH.out.symm.trans hts
      have hlk : l[k]? = some (c, wd) := by
        rw [List.drop_eq_getElem_cons hlt] at hdk
        rw [List.getElem?_eq_getElem hlt, (List.cons.inj hdk).1]
      have hpl : C.pl l (k + 1) = C.pl l k + wd := by rw [C.pl_succ l k hlt]; simp [C.lenAt, hlk]
      have hnt : U.toks (s.data.toList.drop (C.pl l (k + 1))) = l.drop (k + 1) := by
        rw [List.drop_eq_getElem_cons hlt] at hdk
        rw [hpl, (List.cons.inj hdk).2]
      have htk : l.take (k + 1) = l.take k ++ [(c, wd)] := by rw [List.take_add_one, hlk]; rfl
      have F1 : Fr (fun k => k ≠ w.heap.size) wr (wr.iterAt w.heap.size s (C.pl l k + wd)) := (Fr.refl _ _).iterAt _ _ _ (fun _ h => h rfl)
      have hit1 := iterAt_heap wr w.heap.size s (C.pl l k) (C.pl l k + wd) hit
      have hrow1' := ownsRow_fr hrow1 F1 (fun k hk => by omega)
      have hrow2' := ownsRow_fr hrow2 F1 (fun k hk => by omega)
      have hB1 : Below w.heap.size w (wr.iterAt w.heap.size s (C.pl l k + wd)) := hB.trans (F1.toBelow (fun k hk => by omega) (by omega))
      have hsz1 : w.heap.size + 1 ≤ (wr.iterAt w.heap.size s (C.pl l k + wd)).heap.size := by rw [iterAt_size]; exact hsz
      generalize wr.iterAt w.heap.size s (C.pl l k + wd) = A1 at hnx hit1 hrow1' hrow2' hB1 hsz1 F1
      have HN := Lib.hid (And.intro hnt (And.intro htk hpl))
      have hd1 := hd.1
      have hd2 := hd.2.2.1
      have hl1 := hrow1'.lt
      have hl2 := hrow2'.lt
      clear hd hts hdec hH hdk hlk hnt htk hrow1 hrow2 hB hit F1
      go_wp2_with (at_builtin; go_must (first
        | (refine wpList_append_own_at _ rfl _ _ 44 rfl (w.heap.size + 1) 21 i1 _ 1 4 Try.underlying44 hi1 ha0 ha1 ha2 rfl (by decide) _ _ _ rfl (hrow1'.alloc _) ⟨A1.heap.size, 0, none⟩ 1 1 [.int .i32 (c : Int)] rfl rfl (World.news_of_block (World.alloc_heap_new A1 _)) (by simp [Value.oneCell']) (by unfold maxLen; omega) (by omega) (by simp; omega) ?_; intro v1' w2 hown1 hg1 _ hob1; have hrow2w := (hrow2'.alloc _).kept hg1 (dis_kept hdis); have hz2 := hg1.size; simp only [World.size_alloc] at hz2)
        | (refine wpList_append_own_at _ rfl _ _ 29 rfl (w.heap.size + 1) 3 i2 _ 1 8 Try.underlying29 hi2 hb0 hb1 hb2 rfl (by decide) _ _ _ rfl (hrow2w.alloc _) ⟨w2.heap.size, 0, none⟩ 1 1 [.int .i64 (C.pl l k : Int)] rfl rfl (World.news_of_block (World.alloc_heap_new w2 _)) (by simp [Value.oneCell']) (by unfold maxLen; omega) (by omega) (by simp; omega) ?_; intro v2' w3 hown2 hg2 _ hob2)))
      have hz3 := hg2.size
      simp only [World.size_alloc] at hz3
      have hl1w := hown1.lt
      have hit3 : w3.heap[w.heap.size]? = some (.stringIter s (C.pl l (k + 1))) := by
        rw [HN.out.2.2]
        exact (hg2.block _ (by simp; omega) (fun e => by have := (hl2 _ e.symm).1; omega)).trans ((Below.heap_alloc _ _ _ (by omega)).trans ((hg1.block _ (by simp; omega) (fun e => by have := (hl1 _ e.symm).1; omega)).trans ((Below.heap_alloc _ _ _ (by omega)).trans hit1)))
      go_roundw
      case rel =>
        obtain ⟨hnt, htk, hpl⟩ := HN.out
        have hdis1 : ∀ q, v1'.ownBlock = some q → u5.ownBlock ≠ some q := fun q e1 e2 => by
          rcases hob1 with ho | ho
          · exact hdis q (ho.symm.trans e1) e2
          · rw [ho] at e1
            have := Option.some.inj e1
            have := (hl2 q e2).2
            simp at *
            omega
        refine ⟨k + 1, hlt, by omega, Lib.hid hnt, ((((hB1.alloc (by omega) _).grown hg1 (by simp; omega) (fun q e => by have := (hl1 q e).1; omega)).alloc (by omega) _).grown hg2 (by simp; omega) (fun q e => by have := (hl2 q e).1; omega)), by omega, ?_, ?_, ?_, ?_⟩
        · exact hit3
        · rw [htk, runesV_snoc]
          refine (hown1.alloc _).kept hg2 ?_
          cases hq : v1'.ownBlock with
          | none => exact .inl rfl
          | some q => exact .inr (fun e => hdis1 q hq e.symm)
        · rw [plsV_succ]
          exact hown2
        · intro q e1 e2
          rcases hob2 with ho | ho
          · exact hdis1 q e1 (ho.symm.trans e2)
          · rw [ho] at e2
            have := Option.some.inj e2
            have := (hl1w q e1).2
            simp at *
            omega
      case measure =>
        rw [iterPos_of hit3, hpos, HN.out.2.2]
        omega
    · have hnx : ∀ ty, (Instr.next (.pointer (some ⟨w.heap.size, 0, none⟩)) true ty).run Try.prog wr = _ := fun ty => run_next_end_at wr w.heap.size s (C.pl l k) ty hit hp
      have hkl : k = l.length := by
        have := hH.out
        rw [toks_end hp] at this
        have := congrArg List.length this
        rw [List.length_drop] at this
        simp at this
        omega
      subst hkl
      have hpe : C.pl l l.length = s.size := by rw [C.pl_all, hlw]
      rw [List.take_length] at hrow1
      have hl1 := hrow1.lt
      have hl2 := hrow2.lt
      clear hH
      go_wp2_with (at_builtin; go_must (refine wpList_append_own_at _ rfl _ _ 29 rfl (w.heap.size + 1) 3 i2 _ 1 8 Try.underlying29 hi2 hb0 hb1 hb2 rfl (by decide) _ _ _ rfl (hrow2.alloc _) ⟨wr.heap.size, 0, none⟩ 1 1 [.int .i64 (s.size : Int)] rfl rfl (World.news_of_block (World.alloc_heap_new wr _)) (by simp [Value.oneCell']) (by unfold maxLen; omega) (by omega) (by simp; omega) ?_; intro v2' w3 hown2 hg2 _ hob2))
      refine bodyPost_ret (results_tmp2 rfl _ _ _) rfl ?_
      refine ⟨_, _, rfl, (hB.alloc hB.size _).grown hg2 (by simp; omega) (fun q e => by have := (hl2 q e).1; omega), ?_, ?_⟩
      · exact ownsRow_base ((hrow1.alloc _).kept hg2 (dis_kept' hdis)) (by omega)
      · rw [plsV_succ, hpe]
        exact ownsRow_base hown2 (by omega)
end Go.Proofs.Ytclblidfamabdaa
