/- The law's 'moved': signs put behind others, so much further on. -/
import Derived.Test.YtokbmihjpllgpaaDoorLawMelts
import Derived.Test.YtokbmihjpllgpaaDoorEnc
import Derived.Test.YtokbmihjpllgpaaDoorRepair
set_option linter.unusedVariables false
namespace Go.Proofs.YtokbmihjpllgpaaDoor
open Go.RowKit Go.Shelf Go.Lib Go.BigFrame
attribute [local go_sem] Oper.semAt_some

/-- Signs lie from a block's begin. -/
def SignsAt (W : World) (g : Nat) (l : List U.Sg) : Prop := ∀ (j : Nat) (u : Value), (cellsS l)[j]? = some u → W.cell? ⟨g, j, none⟩ = some u
theorem SignsAt.at {W : World} {g k : Nat} {l : List U.Sg} {x : U.Sg} (h : SignsAt W g l) (hx : l[k]? = some x) :
    W.cell? ⟨g, k * 4, none⟩ = some (.int .i64 (x.at_ : Int)) ∧ W.cell? ⟨g, k * 4 + 1, none⟩ = some (.int .i64 (x.len : Int)) ∧ W.cell? ⟨g, k * 4 + 2, none⟩ = some (.int .i32 (x.rune : Int)) ∧ W.cell? ⟨g, k * 4 + 3, none⟩ = some (.bool x.bad) :=
  ⟨h _ _ (flat4 cellS cellS_length l k 0 x hx (by omega)), h _ _ (flat4 cellS cellS_length l k 1 x hx (by omega)), h _ _ (flat4 cellS cellS_length l k 2 x hx (by omega)), h _ _ (flat4 cellS cellS_length l k 3 x hx (by omega))⟩
theorem SignsAt.below {W W' : World} {g : Nat} {l : List U.Sg} (h : SignsAt W g l) (hb : Below W.heap.size W W') : SignsAt W' g l := fun j x hx =>
  (World.cell?_of_block (hb.block g (World.block_lt_of_cell? _ _ (h j x hx)))).trans (h j x hx)
theorem SignsAt.grown {W W' : World} {g : Nat} {l : List U.Sg} {r : Option Nat} (h : SignsAt W g l) (hg : W.grownBy W' r) (hr : r ≠ some g) : SignsAt W' g l := fun j x hx =>
  hg.cell (a := ⟨g, j, none⟩) (h j x hx) (fun e => hr e.symm)

def onL (n : Nat) (l : List U.Sg) : List U.Sg := l.map (U.Sg.on n)
theorem onL_snoc (n : Nat) (l : List U.Sg) (x : U.Sg) : onL n (l ++ [x]) = onL n l ++ [U.Sg.on n x] := by simp [onL]

set_option maxRecDepth 1000000 in
set_option maxHeartbeats 2000000 in
theorem moved_any (v : Value) (la : List U.Sg) (b0 : Nat) (p : ByteArray) (n : Nat) (w : World) (hp : p.size ≤ 1048576) (hn : n ≤ 1048576) (hla : la.length ≤ 1048576) (hb0 : b0 ≤ w.heap.size) (hv : w.ownsRow b0 40 4 v la.length (cellsS la)) :
    Calls Tryd.prog 14 #[v, .string p, .int .i64 (n : Int)] w fun e w' => ∃ v', e = .returned v' ∧ Below b0 w w' ∧
      w'.ownsRow b0 40 4 v' (la.length + (U.signs p.data.toList).length) (cellsS (la ++ onL n (U.signs p.data.toList))) := by
  obtain ⟨i0, hi, hz0, hz1, hz2⟩ := info_parts Tryd.infoSg
  have hll := signs_len_le p
  have A2 := signs_at p.data.toList
  rw [← U.size_eq] at A2
  have AL := fun w => all_any p w (by omega)
  obtain ⟨l, hl⟩ : ∃ l, U.signs p.data.toList = l := ⟨_, rfl⟩
  rw [hl] at hll AL A2 ⊢
  clear hl
  have HAL := Lib.hid AL
  have HA2 := Lib.hid A2
  clear AL A2
  go_enter Tryd.func14, Tryd.ntmps14
  go_wp2_with (go_at_call 15; (with_reducible refine (HAL.out _).mono ?_); rintro e w1 ⟨vm, rfl, hb1, hrow1⟩; obtain ⟨A, cp, rfl, hA⟩ := own_form hrow1)
  have hb1s := hb1.size
  obtain ⟨gm, hgm⟩ : ∃ gm, 0 < l.length → A = some ⟨gm, 0, none⟩ := by
    by_cases h : 0 < l.length
    · obtain ⟨g, hg⟩ := hA h; exact ⟨g, fun _ => hg⟩
    · exact ⟨0, fun h' => absurd h' h⟩
  have hS1 : 0 < l.length → SignsAt w1 gm l := fun h j u hu => row_cell (by rw [hgm h] at hrow1; exact hrow1) j u hu
  have hne : 0 < l.length → ∀ k, v.ownBlock = some k → k ≠ gm := fun h k e1 e2 => by
    have h1 := (hv.lt k e1).2
    rw [hgm h] at hrow1
    have h2 := (hrow1.lt gm rfl).1
    omega
  clear hA
  go_loopw [0, 8] (fun o i wr => ∃ k : Nat, i = .int .i64 (k : Int) ∧ k ≤ l.length ∧ Below b0 w wr ∧ w1.heap.size ≤ wr.heap.size ∧ (0 < l.length → SignsAt wr gm l) ∧ (0 < l.length → ∀ q, o.ownBlock = some q → q ≠ gm) ∧
    wr.ownsRow b0 40 4 o (la.length + k) (cellsS (la ++ onL n (l.take k)))) (fun _ i _ => l.length - (intOf i).toNat)
  case atStart => exact ⟨0, rfl, Nat.zero_le _, hb1.mono hb0, Nat.le_refl _, hS1, hne, by simpa [onL] using own_below hv hb1⟩
  case round =>
    obtain ⟨k, rfl, hk, hB, hsz, hSA, hNE, hrow⟩ := hrel
    by_cases hlt : k < l.length
    · have hA' := hgm (by omega)
      subst hA'
      obtain ⟨x, hx⟩ : ∃ s, l[k]? = some s := ⟨_, List.getElem?_eq_getElem hlt⟩
      have hSr := hSA (by omega)
      have hNr := hNE (by omega)
      have Q := fun o => (hSr.below ((Below.refl wr.heap.size wr).alloc (Nat.le_refl _) o)).at hx
      obtain ⟨s0, s1, s2, s3⟩ := hSr.at hx
      have q0 := fun o => (Q o).1
      have hxl := HA2.out x (List.mem_of_getElem? hx)
      have HT := Lib.hid (show l.take (k + 1) = l.take k ++ [x] by rw [List.take_add_one, hx]; rfl)
      have hlm : gm < wr.heap.size := World.block_lt_of_cell? _ _ s0
      have HSr := Lib.hid hSr
      clear hx Q hSA hNE hrow1 hv hS1 hne hgm hSr
      have hone : ∀ u ∈ cellS (U.Sg.on n x), u.oneCell' = true := by simp [cellS, Value.oneCell']
      have hBs := hB.size
      have hown0 := hrow.lt
      have hb0r : b0 ≤ wr.heap.size := by omega
      go_wp2_with (at_builtin; go_must (refine wpList_append_own_at _ rfl _ _ 35 rfl b0 40 i0 _ 4 24 Tryd.underlying35 hi hz0 hz1 hz2 rfl (by decide) _ _ _ rfl ((hrow.alloc _).alloc _) ⟨wr.heap.size + 1, 0, none⟩ 1 1 (cellS (U.Sg.on n x)) rfl rfl (news2 wr _ _ _) hone (by unfold maxLen; omega) (by omega) (by simp; omega) ?_); intro v' w2 hown hg _ hob)
      have hs2 := hg.size
      simp only [World.size_alloc] at hs2
      go_roundw
      case rel =>
        refine ⟨k + 1, by go_num, hlt, ((hB.alloc hb0r _).alloc (by simp; omega) _).grown hg (by simp; omega) (fun q e => by have := (hown0 q e).1; omega), by omega, fun _ => ?_, fun _ q e => ?_, ?_⟩
        · exact (HSr.out.below (((Below.refl _ _).alloc (Nat.le_refl _) _).alloc (by simp) _)).grown hg (fun e => hNr _ e rfl)
        · rcases hob with ho | ho
          · exact hNr q (ho.symm.trans e)
          · rw [ho] at e
            have := Option.some.inj e
            simp at this
            omega
        · rw [HT.out, onL_snoc, ← List.append_assoc, cellsS_snoc, ← Nat.add_assoc]
          exact hown
      case measure => simp [intOf]; omega
    · obtain rfl : k = l.length := by omega
      rw [List.take_length] at hrow
      go_wp2
      go_ret
      exact ⟨_, rfl, hB, hrow⟩
end Go.Proofs.YtokbmihjpllgpaaDoor
