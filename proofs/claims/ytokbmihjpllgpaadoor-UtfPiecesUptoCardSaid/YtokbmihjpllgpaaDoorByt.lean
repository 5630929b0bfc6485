/- Slices of bytes: what they read; append of one to another; the program's front. -/
import Derived.Test.YtokbmihjpllgpaaDoorFront
import Derived.ArgAppend
import Derived.Deep.RegionHeld3
set_option linter.unusedVariables false
set_option linter.unusedSimpArgs false
namespace Go.Proofs.YtokbmihjpllgpaaDoor
open Go.RowKit Go.Shelf Go.Lib Go.BigFrame
attribute [local go_sem] Oper.semAt_some

theorem Tryd.infoB8 : (Tryd.prog.info? 5).map (fun i => (i.zero, i.size, i.bytes)) = some (some (.int .u8 0), 1, 1) := by kernel_rfl

/-- The bytes from an offset on. -/
def ByAt (w : World) (g o : Nat) (l : List UInt8) : Prop := ∀ j b, l[j]? = some b → w.cell? ⟨g, o + j, none⟩ = some (.int .u8 (b.toNat : Int))
/-- What a slice of bytes reads. -/
def Bsl (w : World) (v : Value) (l : List UInt8) : Prop := (v = .slice none 0 0 ∧ l = []) ∨ ∃ g o c, v = .slice (some ⟨g, o, none⟩) l.length c ∧ l.length ≤ c ∧ ByAt w g o l
/-- The same, and an empty one that lies wherever. -/
def Bsx (w : World) (v : Value) (l : List UInt8) : Prop := Bsl w v l ∨ (l = [] ∧ ∃ ao c, v = .slice ao 0 c)
theorem ByAt.fr {S : Nat → Prop} {w w' : World} {g o : Nat} {l : List UInt8} (h : ByAt w g o l) (hf : Fr S w w') (hg : 0 < l.length → S g) : ByAt w' g o l := fun j b hj =>
  hf.cell (h j b hj) (hg (by have := (List.getElem?_eq_some_iff.1 hj).1; omega))
theorem ByAt.lt {w : World} {g o : Nat} {l : List UInt8} (h : ByAt w g o l) (hl : 0 < l.length) : g < w.heap.size := World.block_lt_of_cell? w _ (h 0 l[0] (by simp [hl]))
theorem ByAt.drop {w : World} {g o : Nat} {l : List UInt8} (h : ByAt w g o l) (k : Nat) : ByAt w g (o + k) (l.drop k) := fun j b hj => by
  rw [Nat.add_assoc]
  exact h (k + j) b (by simpa using hj)
theorem ByAt.take {w : World} {g o : Nat} {l : List UInt8} (h : ByAt w g o l) (k : Nat) : ByAt w g o (l.take k) := fun j b hj => by
  rw [List.getElem?_take] at hj
  split at hj
  · exact h j b hj
  · cases hj
theorem addr_add (g o j : Nat) : (⟨g, o, none⟩ : Addr).add j = ⟨g, o + j, none⟩ := by unfold Addr.add; split <;> simp_all
/-- The cells of bytes. -/
def bcs (l : List UInt8) : List Value := l.map fun b => .int .u8 (b.toNat : Int)
theorem bcs_at {l : List UInt8} {j : Nat} {u : Value} (h : (bcs l)[j]? = some u) : ∃ b, l[j]? = some b ∧ u = .int .u8 (b.toNat : Int) := by
  simp only [bcs, List.getElem?_map, Option.map_eq_some_iff] at h
  obtain ⟨b, h1, h2⟩ := h
  exact ⟨b, h1, h2.symm⟩
theorem ByAt.cells {w : World} {g o : Nat} {l : List UInt8} (h : ByAt w g o l) : ∀ j u, (bcs l)[j]? = some u → w.cell? ((⟨g, o, none⟩ : Addr).add j) = some u := fun j u hu => by
  obtain ⟨b, h1, rfl⟩ := bcs_at hu
  rw [addr_add]
  exact h j b h1
theorem bcs_one (l : List UInt8) : ∀ u ∈ bcs l, u.oneCell' = true := by
  intro u hu
  simp only [bcs, List.mem_map] at hu
  obtain ⟨b, _, rfl⟩ := hu
  rfl
theorem bsl_of_row {w : World} {base : Nat} {v : Value} {l : List UInt8} {n : Nat} (hn : l.length = n) (h : w.ownsRow base 5 1 v n (bcs l)) : Bsl w v l ∧ (0 < n → ∃ g c, v = .slice (some ⟨g, 0, none⟩) n c ∧ base ≤ g) := by
  subst hn
  rcases h.2 with ⟨rfl, h0⟩ | ⟨g, cap, cur, rfl, hb, hc, hle, _⟩
  · exact ⟨.inl ⟨rfl, List.length_eq_zero_iff.1 (by omega)⟩, fun h => by omega⟩
  · exact ⟨.inr ⟨g, 0, cap, rfl, hle, fun j b hj => by
      have := row_cell h j (.int .u8 (b.toNat : Int)) (by simp [bcs, hj])
      rwa [Nat.zero_add]⟩, fun _ => ⟨g, cap, rfl, hb⟩⟩

set_option maxRecDepth 1000000 in
/-- One slice behind another that has no room: what comes reads both. -/
theorem app_bytes2x (w : World) (ao : Option Addr) (n : Nat) (hl bl : List UInt8) (xv : Value) (hn : hl.length = n) (hA : Bsl w (.slice ao n n) hl) (hX : Bsx w xv bl) (hsm : hl.length + bl.length ≤ 8388608) :
    ∃ v' w', (Builtin.append_ #[27, 27] 27 #[.slice ao n n, xv]).run Tryd.prog w = .ok v' w' ∧ Below w.heap.size w w' ∧ Bsl w' v' (hl ++ bl) ∧ (0 < bl.length → ∀ q, v'.ownBlock = some q → w.heap.size ≤ q) := by
  obtain ⟨i, hi, hz, hsz, hby⟩ := info_parts Tryd.infoB8
  have hgb : ∀ w', w.grownBy w' none → Below w.heap.size w w' := fun w' h => ⟨h.os, h.tape, h.output, h.size, fun k hk => h.block k hk (by simp)⟩
  by_cases hb : bl = []
  · subst hb
    rw [List.append_nil]
    refine ⟨.slice ao n n, w, ?_, Below.refl _ _, hA, fun h => absurd h (by simp)⟩
    have hx : ∃ xa c, xv = .slice xa 0 c := by
      rcases hX with (⟨rfl, _⟩ | ⟨g, o, c, rfl, _⟩) | ⟨_, ao, c, rfl⟩
      · exact ⟨none, 0, rfl⟩
      · exact ⟨_, c, rfl⟩
      · exact ⟨_, c, rfl⟩
    obtain ⟨xa, c, rfl⟩ := hx
    have hl0 : ∀ b, (loadCells b 0).run Tryd.prog w = .ok #[] w := fun b => run_loadCells_list w b [] (by simp)
    cases ao with
    | none =>
      rcases hA with ⟨h1, h2⟩ | ⟨g, o, c, h1, _⟩
      · cases h1
        cases xa <;> simp [Builtin.append_, run_underlying Tryd.underlying27, sizeOf, typeInfo, hi, hsz, Builtin.lenOf, Builtin.firstCells, hl0, Result.andThen]
      · cases h1
    | some a =>
      obtain ⟨g, o, hg⟩ : ∃ g o, a = ⟨g, o, none⟩ := by
        rcases hA with ⟨h1, h2⟩ | ⟨g, o, c, h1, _⟩
        · cases h1
        · cases h1; exact ⟨g, o, rfl⟩
      subst hg
      cases xa <;> simp [Builtin.append_, run_underlying Tryd.underlying27, sizeOf, typeInfo, hi, hsz, Builtin.lenOf, Builtin.firstCells, hl0, Result.andThen, storeCells]
  · have hbp : 0 < bl.length := List.length_pos_iff.2 hb
    rcases hX with (⟨_, h⟩ | ⟨gx, ox, cx, rfl, hlx, hx⟩) | ⟨h, _⟩
    · exact absurd h hb
    rotate_left
    · exact absurd h hb
    have hcat : bcs hl ++ bcs bl = bcs (hl ++ bl) := by simp [bcs]
    rcases hA with ⟨h1, h2⟩ | ⟨g, o, c, h1, hle, ha⟩
    · cases h1
      subst h2
      obtain ⟨v', w', hr, hrow, hg, _⟩ := run_append_own (P := Tryd.prog) w w.heap.size 27 27 5 i (.int .u8 0) 1 1 Tryd.underlying27 hi hz hsz hby rfl (by omega) (.slice none 0 0) 0 [] (World.ownsRow_nil w _ 5 1) ⟨gx, ox, none⟩ bl.length cx (bcs bl) (by simp [bcs]) hx.cells (bcs_one bl) (by simp only [maxLen]; omega) (by omega) (Nat.le_refl _)
      rw [List.nil_append] at hrow ⊢
      exact ⟨v', w', hr, hgb _ hg, (bsl_of_row (by omega) hrow).1, fun _ q hq => (hrow.lt q hq).1⟩
    · cases h1
      obtain ⟨v', w', hr, hrow, hg⟩ := run_append_arg_grows (P := Tryd.prog) w 27 27 5 i (.int .u8 0) 1 1 Tryd.underlying27 hi hz hsz hby rfl (by omega) ⟨g, o, none⟩ hl.length hl.length (bcs hl) (by simp [bcs]) ha.cells ⟨gx, ox, none⟩ bl.length cx (bcs bl) (by simp [bcs]) hx.cells (by omega) (by simp only [maxLen]; omega) (by omega)
      rw [hcat] at hrow
      exact ⟨v', w', hr, hgb _ hg, (bsl_of_row (by simp) hrow).1, fun _ q hq => (hrow.lt q hq).1⟩
theorem app_bytes2 (w : World) (ao : Option Addr) (n : Nat) (hl bl : List UInt8) (xv : Value) (hn : hl.length = n) (hA : Bsl w (.slice ao n n) hl) (hX : Bsl w xv bl) (hsm : hl.length + bl.length ≤ 8388608) :
    ∃ v' w', (Builtin.append_ #[27, 27] 27 #[.slice ao n n, xv]).run Tryd.prog w = .ok v' w' ∧ Below w.heap.size w w' ∧ Bsl w' v' (hl ++ bl) ∧ (0 < bl.length → ∀ q, v'.ownBlock = some q → w.heap.size ≤ q) := app_bytes2x w ao n hl bl xv hn hA (.inl hX) hsm
theorem app_bytes (w : World) (ao : Option Addr) (n : Nat) (hl bl : List UInt8) (xv : Value) (hn : hl.length = n) (hA : Bsl w (.slice ao n n) hl) (hX : Bsx w xv bl) (hsm : hl.length + bl.length ≤ 8388608) :
    ∃ v' w', (Builtin.append_ #[27, 27] 27 #[.slice ao n n, xv]).run Tryd.prog w = .ok v' w' ∧ Below w.heap.size w w' ∧ Bsl w' v' (hl ++ bl) := by
  obtain ⟨v', w', h1, h2, h3, _⟩ := app_bytes2x w ao n hl bl xv hn hA hX hsm
  exact ⟨v', w', h1, h2, h3⟩

section
variable {P : Program} {w : World}
/-- An append whose run is known, at a step of a region that draws its order. -/
theorem step_append_any {ops : Array Oper} {o : Oper} {a : Act} {K : Act → World → Prop} {Q : Exit → Act → World → Prop} {E : Prop} {R : Value → World → Prop} (hgd : o.guard = none) (s x : Operand) (t : TypeId)
    (ho : o.op = .call { callee := .builtin .append, args := #[s, x], argTypes := #[t, t] }) (v xv : Value) (hs : a.eval s = v) (hx : a.eval x = xv)
    (hr : ∃ v' w', (Builtin.append_ #[t, t] o.type #[v, xv]).run P w = .ok v' w' ∧ R v' w') (h : ∀ v' w', R v' w' → K (a.put o.dst v') w') :
    if Region.wanted o (yielded ops a.tmps) = true then Oper.wp P o a w K Q else E := by
  have hw : Region.wanted o (yielded ops a.tmps) = true := by simp [Region.wanted, hgd]
  rw [if_pos hw]
  obtain ⟨v', w', hrun, r1⟩ := hr
  unfold Oper.wp
  simp [execOp, ho, resolve, invoke, builtin, hs, hx, hrun, Result.andThen]
  exact h _ _ r1
/-- The same in a plain region. -/
theorem wpList_append_any {ops : Array Oper} {rest : List Oper} {o : Oper} {a : Act} {Q : Exit → Act → World → Prop} {R : Value → World → Prop} (hgd : o.guard = none) (s x : Operand) (t : TypeId)
    (ho : o.op = .call { callee := .builtin .append, args := #[s, x], argTypes := #[t, t] }) (v xv : Value) (hs : a.eval s = v) (hx : a.eval x = xv)
    (hr : ∃ v' w', (Builtin.append_ #[t, t] o.type #[v, xv]).run P w = .ok v' w' ∧ R v' w') (h : ∀ v' w', R v' w' → wpList P ops Q rest (a.put o.dst v') w') : wpList P ops Q (o :: rest) a w := by
  refine wpList_plain hgd fun K hK' => ?_
  obtain ⟨v', w', hrun, r1⟩ := hr
  unfold Oper.wp
  simp [execOp, ho, resolve, invoke, builtin, hs, hx, hrun, Result.andThen]
  exact hK' _ _ (h _ _ r1)
end

/-- Are these bytes a front of some sign's, and not all of them? -/
def frB (l : List UInt8) : Bool := U.frt (l.map UInt8.toNat)
theorem full_any (g o cap : Nat) (l : List UInt8) (w : World) (h1 : 0 < l.length) (h3 : l.length ≤ 3) (hc : l.length ≤ cap) (hB : ByAt w g o l) (T : Tabs w) :
    Calls Tryd.prog 28 #[.slice (some ⟨g, o, none⟩) l.length cap] w fun e w' => e = .returned (.bool (!frB l)) ∧ Below w.heap.size w w' := by
  match l, h1, h3 with
  | [b0], _, _ => exact full1 g o cap b0.toNat w b0.toNat_lt hc (by simpa using hB 0 b0 rfl) T
  | [b0, b1], _, _ => exact full2 g o cap b0.toNat b1.toNat w b0.toNat_lt hc (by simpa using hB 0 b0 rfl) (by simpa using hB 1 b1 rfl) T
  | [b0, b1, b2], _, _ => exact full3 g o cap b0.toNat b1.toNat b2.toNat w b0.toNat_lt hc (by simpa using hB 0 b0 rfl) (by simpa using hB 1 b1 rfl) (by simpa using hB 2 b2 rfl) T
  | _ :: _ :: _ :: _ :: _, _, h => simp at h
set_option maxRecDepth 1000000 in
theorem frontU_any (g o n cap : Nat) (l : List UInt8) (w : World) (hn : l.length = n) (h1 : 0 < n) (h3 : n ≤ 3) (hc : n ≤ cap) (hB : ByAt w g o l) (T : Tabs w) :
    Calls Tryd.prog 21 #[.slice (some ⟨g, o, none⟩) n cap] w fun e w' => e = .returned (.bool (frB l)) ∧ Below w.heap.size w w' := by
  have F := Lib.hid (hn ▸ full_any g o cap l w (by omega) (by omega) (by omega) hB T : Calls Tryd.prog 28 #[.slice (some ⟨g, o, none⟩) n cap] w fun e w' => e = .returned (.bool (!frB l)) ∧ Below w.heap.size w w')
  obtain ⟨b, hb⟩ : ∃ b, frB l = b := ⟨_, rfl⟩
  rw [hb] at F ⊢
  clear hb hn
  go_enter Tryd.func21, Tryd.ntmps21
  go_wp2_with (go_at_call 28; refine F.out.mono ?_; rintro e w1 ⟨rfl, hb1⟩)
  go_ret
  exact ⟨by simp, hb1⟩

theorem newPieces_any (w : World) : Calls Tryd.prog 6 #[] w fun e w' => e = .returned (.pointer (some ⟨w.heap.size, 0, none⟩)) ∧ w.alloc (.cells #[.slice none 0 0] 51) = w' := by
  go_enter Tryd.func6, Tryd.ntmps6
  go_wp2
  go_ret
  exact ⟨rfl, rfl⟩
end Go.Proofs.YtokbmihjpllgpaaDoor
