/- Runes and the places of bad signs, in slices of numbers. -/
import Derived.Test.YtokbmihjpllgpaaDoorLawSigns
set_option linter.unusedVariables false
namespace Go.Proofs.YtokbmihjpllgpaaDoor
open Go.RowKit Go.Shelf Go.Lib Go.BigFrame
attribute [local go_sem] Oper.semAt_some

/-- Runes lie from a block's begin. -/
def RunesAt (W : World) (g : Nat) (l : List Int) : Prop := ∀ (j : Nat) (x : Int), l[j]? = some x → W.cell? ⟨g, j, none⟩ = some (.int .i32 x)
theorem RunesAt.below {W W' : World} {g : Nat} {l : List Int} (h : RunesAt W g l) (hb : Below W.heap.size W W') : RunesAt W' g l := fun j x hx =>
  (World.cell?_of_block (hb.block g (World.block_lt_of_cell? _ _ (h j x hx)))).trans (h j x hx)
def runesL (l : List UInt8) : List Int := (U.toks l).map fun t => (t.1 : Int)

theorem runesFrom_eq (s : ByteArray) : ∀ (b i : Nat) (acc : Array Value), s.size - i ≤ b → Conv.runesFrom s b i acc = acc ++ ((U.toks (s.data.toList.drop i)).map fun t => Value.int .i32 (t.1 : Int)).toArray := by
  intro b
  induction b with
  | zero =>
    intro i acc h
    rw [toks_end (by omega)]
    simp [Conv.runesFrom]
  | succ b ih =>
    intro i acc h
    unfold Conv.runesFrom
    by_cases hi : i < s.size
    · have hd := decode_facts hi
      rw [if_pos hi, toks_at hi, List.map_cons]
      have h2 := ih (i + (Utf8.decode s i).2) (acc.push (.int .i32 (Int.ofNat (Utf8.decode s i).1))) (by omega)
      refine h2.trans ?_
      simp
    · rw [if_neg hi, toks_end hi]
      simp

def nums (l : List Int) : List Value := l.map (Value.int .i64)
theorem nums_snoc (l : List Int) (x : Int) : nums (l ++ [x]) = nums l ++ [.int .i64 x] := by simp [nums]
theorem nums_at {w : World} {base g cap k : Nat} {e : TypeId} {l : List Int} {x : Int} (h : w.ownsRow base e 1 (.slice (some ⟨g, 0, none⟩) l.length cap) l.length (nums l)) (hx : l[k]? = some x) : w.cell? ⟨g, k, none⟩ = some (.int .i64 x) :=
  row_cell h k _ (by simp [nums, hx])

theorem Tryd.infoInt : (Tryd.prog.info? 3).map (fun i => (i.zero, i.size, i.bytes)) = some (some (.int .i64 0), 1, 8) := by kernel_rfl

set_option maxRecDepth 1000000 in
theorem ints_any (g cap : Nat) (l : List Int) (w : World) (hl : l.length ≤ 4194304) (hr : ∀ x ∈ l, -2147483648 ≤ x ∧ x ≤ 2147483647) (hw : RunesAt w g l) (A : Option Addr) (hA : 0 < l.length → A = some ⟨g, 0, none⟩) :
    Calls Tryd.prog 20 #[.slice A l.length cap] w fun e w' => ∃ v, e = .returned v ∧ Below w.heap.size w w' ∧ w'.ownsRow w.heap.size 3 1 v l.length (nums l) := by
  obtain ⟨i0, hi, hz0, hz1, hz2⟩ := info_parts Tryd.infoInt
  go_enter Tryd.func20, Tryd.ntmps20
  go_wp2
  go_loopw [3, 4] (fun o i wr => ∃ k : Nat, i = .int .i64 (k : Int) ∧ k ≤ l.length ∧ Below w.heap.size w wr ∧ wr.ownsRow w.heap.size 3 1 o k (nums (l.take k))) (fun _ i _ => l.length - (intOf i).toNat)
  case atStart => exact ⟨0, rfl, Nat.zero_le _, Below.refl _ _, World.ownsRow_nil _ _ _ _⟩
  case round =>
    obtain ⟨k, rfl, hk, hB, hrow⟩ := hrel
    by_cases hlt : k < l.length
    · obtain rfl := hA (by omega)
      obtain ⟨x, hx⟩ : ∃ s, l[k]? = some s := ⟨_, List.getElem?_eq_getElem hlt⟩
      have c0 := (hw.below hB) k x hx
      have hxr := hr x (List.mem_of_getElem? hx)
      have HT := Lib.hid (show l.take (k + 1) = l.take k ++ [x] by rw [List.take_add_one, hx]; rfl)
      have HW := (show IntKind.i64.wrap x = x from IntWalk.i64_in _ (by omega))
      have hBs := hB.size
      clear hx hw hr hA
      go_wp2_with (at_builtin; go_must (refine wpList_append_own _ rfl _ _ 23 rfl w.heap.size 3 i0 _ 1 8 Tryd.underlying23 hi hz0 hz1 hz2 rfl (by decide) _ _ _ rfl (hrow.alloc _) ⟨wr.heap.size, 0, none⟩ 1 1 [.int .i64 x] rfl rfl (World.news_of_block (World.alloc_heap_new wr _)) (by simp [Value.oneCell']) (by unfold maxLen; omega) (by omega) (by simp; omega) ?_); intro v' w2 hown hg _)
      go_roundw
      case rel =>
        refine ⟨k + 1, by go_num, hlt, (hB.alloc hB.size _).grown hg (by simp; omega) (fun q e => by have := (hrow.lt q e).1; omega), ?_⟩
        rw [HT.out, nums_snoc]
        exact hown
      case measure => simp [intOf]; omega
    · obtain rfl : k = l.length := by omega
      rw [List.take_length] at hrow
      go_wp2
      go_ret
      exact ⟨_, rfl, hB, hrow⟩

/-- The places of the bad ones. -/
def badsL (l : List U.Sg) : List Int := (l.filter (·.bad)).map fun x => (x.at_ : Int)
theorem badsL_snoc (l : List U.Sg) (x : U.Sg) : badsL (l ++ [x]) = badsL l ++ (if x.bad then [(x.at_ : Int)] else []) := by
  unfold badsL
  rw [List.filter_append, List.map_append]
  congr 1
  cases h : x.bad <;> simp [h]
theorem badsL_len (l : List U.Sg) : (badsL l).length ≤ l.length := by unfold badsL; rw [List.length_map]; exact List.length_filter_le _ _

set_option maxRecDepth 1000000 in
theorem same_any (v r : Value) (l : List Int) (b1 b2 : Nat) (w : World) (hl : l.length ≤ 4194304) (hv : w.ownsRow b1 3 1 v l.length (nums l)) (hr : w.ownsRow b2 3 1 r l.length (nums l)) :
    Calls Tryd.prog 19 #[v, r] w fun e w' => e = .returned (.bool true) ∧ Below w.heap.size w w' := by
  obtain ⟨A, cp, rfl, hA⟩ := own_form hv
  obtain ⟨A', cp', rfl, hA'⟩ := own_form hr
  go_enter Tryd.func19, Tryd.ntmps19
  go_wp2
  go_loopw [5] (fun i wr => ∃ (k : Nat) (m : Nat), i = .int .i64 (k : Int) ∧ k ≤ l.length ∧ wr = w.drewN m) (fun i _ => l.length - (intOf i).toNat)
  case atStart => exact ⟨0, 0, rfl, Nat.zero_le _, rfl⟩
  case round =>
    obtain ⟨k, m, rfl, hk, rfl⟩ := hrel
    by_cases hlt : k < l.length
    · obtain ⟨g, rfl⟩ := hA (by omega)
      obtain ⟨g', rfl⟩ := hA' (by omega)
      obtain ⟨x, hx⟩ : ∃ s, l[k]? = some s := ⟨_, List.getElem?_eq_getElem hlt⟩
      have c0 := nums_at hv hx
      have d0 := nums_at hr hx
      clear hx hv hr hA hA'
      go_wp2
      go_quiet (fail)
      go_wp2
      go_roundw
      case rel => exact ⟨k + 1, m + nq, by go_num, by omega, rfl⟩
      case measure => simp [intOf]; omega
    · obtain rfl : k = l.length := by omega
      go_wp2
      go_ret
      exact ⟨rfl, below_dn (Below.refl _ _) _⟩
end Go.Proofs.YtokbmihjpllgpaaDoor
