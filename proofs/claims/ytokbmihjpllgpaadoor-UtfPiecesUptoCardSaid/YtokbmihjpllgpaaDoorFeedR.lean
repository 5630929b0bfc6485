/- The document's Pieces: Feed, End. -/
import Derived.Test.YtokbmihjpllgpaaDoorFrR
import Derived.Test.YtokbmihjpllgpaaDoorFeed
set_option linter.unusedVariables false
set_option linter.unusedSimpArgs false
namespace Go.Proofs.YtokbmihjpllgpaaDoor
open Go.RowKit Go.Shelf Go.Lib Go.BigFrame
attribute [local go_sem] Oper.semAt_some

/-- A document's Pieces: what the box holds; and what is held lies from a block on. -/
def PcR (w : World) (p : Nat) (l : List UInt8) : Prop := ∃ hv, w.heap[p]? = some (.cells #[hv] 29 (0, 0)) ∧ Bsl w hv l
def PcRn (w : World) (p : Nat) (l : List UInt8) (lo : Nat) : Prop := ∃ hv, w.heap[p]? = some (.cells #[hv] 29 (0, 0)) ∧ Bsl w hv l ∧ ∀ q, hv.ownBlock = some q → lo ≤ q
theorem PcRn.pc {w : World} {p : Nat} {l : List UInt8} {lo : Nat} (h : PcRn w p l lo) : PcR w p l := by obtain ⟨hv, h1, h2, _⟩ := h; exact ⟨hv, h1, h2⟩

/-- Bytes put behind a row of one's own. -/
theorem app_own_b (w : World) (base : Nat) (v : Value) (l b : List UInt8) (xv : Value) (h : w.ownsRow base 5 1 v l.length (bcs l)) (hX : Bsx w xv b) (hb : base ≤ w.heap.size) (hsm : l.length + b.length ≤ 8388608) :
    ∃ v' w', (Builtin.append_ #[27, 27] 27 #[v, xv]).run Tryd.prog w = .ok v' w' ∧ (w'.ownsRow base 5 1 v' (l ++ b).length (bcs (l ++ b)) ∧ w.grownBy w' v.ownBlock) := by
  obtain ⟨i, hi, hz, hsz, hby⟩ := info_parts Tryd.infoB8
  by_cases hbe : b = []
  · subst hbe
    rw [List.append_nil]
    refine ⟨v, w, ?_, h, ⟨rfl, rfl, rfl, Nat.le_refl _, fun _ _ _ => rfl⟩⟩
    have hx : ∃ xa c, xv = .slice xa 0 c := by
      rcases hX with (⟨rfl, _⟩ | ⟨g, o, c, rfl, _⟩) | ⟨_, ao, c, rfl⟩
      · exact ⟨none, 0, rfl⟩
      · exact ⟨_, c, rfl⟩
      · exact ⟨_, c, rfl⟩
    obtain ⟨xa, c, rfl⟩ := hx
    have hl0 : ∀ b, (loadCells b 0).run Tryd.prog w = .ok #[] w := fun b => run_loadCells_list w b [] (by simp)
    rcases h.2 with ⟨rfl, h2⟩ | ⟨g, cap, cur, rfl, hbg, hc, hle, _⟩
    · cases xa <;> simp [Builtin.append_, run_underlying Tryd.underlying27, sizeOf, typeInfo, hi, hsz, Builtin.lenOf, Builtin.firstCells, hl0, Result.andThen]
    · cases xa <;> simp [Builtin.append_, run_underlying Tryd.underlying27, sizeOf, typeInfo, hi, hsz, Builtin.lenOf, Builtin.firstCells, hl0, Result.andThen, storeCells, hle]
  · have hbp : 0 < b.length := List.length_pos_iff.2 hbe
    rcases hX with (⟨_, h0⟩ | ⟨gx, ox, cx, rfl, hlx, hx⟩) | ⟨h0, _⟩
    · exact absurd h0 hbe
    rotate_left
    · exact absurd h0 hbe
    obtain ⟨v', w', hr, hrow, hg, _⟩ := run_append_own (P := Tryd.prog) w base 27 27 5 i (.int .u8 0) 1 1 Tryd.underlying27 hi hz hsz hby rfl (by omega) v l.length (bcs l) h ⟨gx, ox, none⟩ b.length cx (bcs b) (by simp [bcs]) hx.cells (bcs_one b) (by simp only [maxLen]; omega) (by omega) hb
    refine ⟨v', w', hr, ?_, hg⟩
    rw [show bcs l ++ bcs b = bcs (l ++ b) by simp [bcs], show l.length + b.length = (l ++ b).length by simp] at hrow
    exact hrow
section
variable {P : Program} {w : World}
/-- A make whose run is known, at a step of a region that draws its order. -/
theorem step_make_any {ops : Array Oper} {o : Oper} {a : Act} {K : Act → World → Prop} {Q : Exit → Act → World → Prop} {E : Prop} {R : Value → World → Prop} (hgd : o.guard = none) (l c : Operand) (t : TypeId)
    (ho : o.op = Op.makeSlice t l c) (lv cv : Value) (hl : a.eval l = lv) (hc : a.eval c = cv)
    (hr : ∃ v' w', (Instr.makeSlice t lv cv).run P w = .ok v' w' ∧ R v' w') (h : ∀ v' w', R v' w' → K (a.put o.dst v') w') :
    if Region.wanted o (yielded ops a.tmps) = true then Oper.wp P o a w K Q else E := by
  have hw : Region.wanted o (yielded ops a.tmps) = true := by simp [Region.wanted, hgd]
  rw [if_pos hw]
  obtain ⟨v', w', hrun, r1⟩ := hr
  unfold Oper.wp
  simp [execOp, ho, hl, hc, hrun, Result.andThen]
  exact h _ _ r1
end
theorem Bsl.grown {w w' : World} {v : Value} {l : List UInt8} {row : Option Nat} (h : Bsl w v l) (hg : w.grownBy w' row) (hne : ∀ q, v.ownBlock = some q → row ≠ some q) : Bsl w' v l := by
  rcases h with h | ⟨g, o, c, rfl, hle, hB⟩
  · exact .inl h
  · exact .inr ⟨g, o, c, rfl, hle, fun j b hj => (World.cell?_of_block (hg.block g (World.block_lt_of_cell? _ _ (hB j b hj)) (fun e => hne g rfl e.symm))).trans (hB j b hj)⟩
theorem Bsl.drew {w : World} {v : Value} {l : List UInt8} (h : Bsl w v l) : Bsl w.drew v l := h
theorem Bsl.alloc {w : World} {v : Value} {l : List UInt8} (h : Bsl w v l) (o : Obj) : Bsl (w.alloc o) v l := h.below ((Below.refl _ _).alloc (Nat.le_refl _) o)
theorem bsl_at (w : World) (q : Nat) (l : List UInt8) (fr : Nat × Nat) (hq : w.heap.size = q) : Bsl (w.alloc (.cells (bcs l).toArray 5 fr)) (.slice (some ⟨q, 0, none⟩) l.length l.length) l := by
  subst hq
  refine .inr ⟨w.heap.size, 0, _, rfl, Nat.le_refl _, fun j b hj => ?_⟩
  have := World.alloc_heap_new w (.cells (bcs l).toArray 5 fr)
  rw [Nat.zero_add]
  simp only [World.cell?, this]
  have hb : (bcs l).toArray[j]? = some (.int .u8 (b.toNat : Int)) := by simp [bcs, hj]
  simp [hb]
/-- A stronger condition may be held from here on. -/
theorem wpAnyH_imp {P : Program} {md : Region.Mode} {ops : Array Oper} {Q : Exit → Act → World → Prop} {S S' : World → Prop} (hS : ∀ w, S' w → S w) : ∀ (fuel : Nat) (listed : Array Bool) (a : Act) (w : World), wpAnyH P md ops Q S' fuel listed a w → wpAnyH P md ops Q S fuel listed a w
  | 0, _, _, _, h => h
  | fuel + 1, _, _, _, h => ⟨h.1, fun i hi => wpOp_mono (fun a' w' h' => ⟨hS w' h'.1, wpAnyH_imp hS fuel _ a' w' h'.2⟩) (h.2 i hi)⟩
/-- A slice's back part. -/
theorem slice_from (A : Option Addr) (L C n : Nat) (hn : n ≤ L) (hA : ∀ a, A = some a → ∃ g o, a = ⟨g, o, none⟩) (hLC : L ≤ C) :
    ∃ A', (∀ W : World, (Instr.slice 27 (.slice A L C) (some (.int .i64 (n : Int))) none none).run Tryd.prog W = .ok (.slice A' (L - n) (C - n)) W) ∧
      (∀ (W : World) (al : List UInt8), Bsl W (.slice A L C) al → Bsl W (.slice A' (L - n) (C - n)) (al.drop n)) ∧ (∀ k c k' c', (Value.slice A' k c).ownBlock = (Value.slice A k' c').ownBlock) := by
  obtain ⟨i, hi, hz, hsz, hby⟩ := info_parts Tryd.infoB8
  have hrun : ∀ W : World, (Instr.slice 27 (.slice A L C) (some (.int .i64 (n : Int))) none none).run Tryd.prog W = .ok (sliced A n L C 1) W := fun W => by
    simp [Instr.slice, run_underlying Tryd.underlying27, Instr.sliceBounds, run_sliceBound, sliced, sizeOf, typeInfo, hi, hsz, Result.andThen, Program.elem, Tryd.underlying27, hn]
  refine ⟨if C = n then A else Option.map (fun a : Addr => a.add (n * 1)) A, hrun, fun W al h => ?_, fun k c k' c' => ?_⟩
  · rcases h with ⟨h1, h2⟩ | ⟨g, o, c, h1, hle, hB⟩
    · cases h1
      subst h2
      refine .inl ⟨?_, by simp⟩
      have : n = 0 := by omega
      subst this
      simp
    · injection h1 with h3 h4 h5
      subst h3 h5
      have hd : (al.drop n).length = L - n := by rw [List.length_drop, h4]
      by_cases hc : C = n
      · rw [if_pos hc]
        refine .inr ⟨g, o, C - n, by rw [hd], by rw [hd]; omega, fun j b hj => ?_⟩
        have := (List.getElem?_eq_some_iff.1 hj).1
        omega
      · rw [if_neg hc]
        exact .inr ⟨g, o + n, C - n, by rw [hd]; simp [addr_add], by rw [hd]; omega, hB.drop n⟩
  · by_cases hc : C = n
    · rw [if_pos hc]; cases A <;> rfl
    · rw [if_neg hc]
      cases A with
      | none => rfl
      | some a => obtain ⟨g, o, rfl⟩ := hA a rfl; simp [addr_add, Value.ownBlock]

theorem slice_to (A : Option Addr) (L C n : Nat) (hn : n ≤ L) (hA : ∀ a, A = some a → ∃ g o, a = ⟨g, o, none⟩) (hLC : L ≤ C) (W : World) :
    (Instr.slice 27 (.slice A L C) none (some (.int .i64 (n : Int))) none).run Tryd.prog W = .ok (.slice A n C) W := by
  obtain ⟨i, hi, hz, hsz, hby⟩ := info_parts Tryd.infoB8
  have hnC : n ≤ C := by omega
  have hrun : (Instr.slice 27 (.slice A L C) none (some (.int .i64 (n : Int))) none).run Tryd.prog W = .ok (sliced A 0 n C 1) W := by
    simp [Instr.slice, run_underlying Tryd.underlying27, Instr.sliceBounds, run_sliceBound, sliced, sizeOf, typeInfo, hi, hsz, Result.andThen, Program.elem, Tryd.underlying27, hnC]
  rw [hrun]
  unfold sliced
  congr 2
  cases A with
  | none => simp
  | some a => obtain ⟨g, o, rfl⟩ := hA a rfl; simp [addr_add]
theorem Bsl.takes {W : World} {A : Option Addr} {L C M : Nat} {al : List UInt8} (h : Bsl W (.slice A L C) al) (hM : M ≤ L) : Bsl W (.slice A M C) (al.take M) := by
  rcases h with ⟨h1, h2⟩ | ⟨g, o, c, h1, hle, hB⟩
  · cases h1; subst h2
    have : M = 0 := by omega
    subst this
    exact .inl ⟨rfl, by simp⟩
  · injection h1 with h3 h4 h5
    subst h3 h5
    exact .inr ⟨g, o, C, by rw [List.length_take, Nat.min_eq_left (by omega)], by rw [List.length_take]; omega, hB.take M⟩
theorem Bsl.addr {W : World} {A : Option Addr} {L C : Nat} {al : List UInt8} (h : Bsl W (.slice A L C) al) : ∀ a, A = some a → ∃ g o, a = ⟨g, o, none⟩ := fun a ha => by
  rcases h with ⟨h1, h2⟩ | ⟨g, o, c, h1, hle, hB⟩
  · cases h1; cases ha
  · injection h1 with h3 h4 h5; rw [h3] at ha; cases ha; exact ⟨g, o, rfl⟩

theorem byAt_neR {w : World} {g o p : Nat} {l : List UInt8} {v : Value} {t r} (h : ByAt w g o l) (hl : 0 < l.length) (hb : w.heap[p]? = some (.cells #[v] t r)) (hv : ∃ ao n c, v = .slice ao n c) : g ≠ p := by
  obtain ⟨ao, n, c, rfl⟩ := hv
  exact byAt_ne h hl hb
theorem PcR.lt {w : World} {p : Nat} {l : List UInt8} (h : PcR w p l) : p < w.heap.size := by obtain ⟨_, h, _⟩ := h; exact (Array.getElem?_eq_some_iff.1 h).1
theorem PcR.below {w w' : World} {p : Nat} {l : List UInt8} (h : PcR w p l) (hb : Below w.heap.size w w') : PcR w' p l := by
  have hl := h.lt
  obtain ⟨hv, h1, h2⟩ := h
  exact ⟨hv, (hb.block _ hl).trans h1, h2.below hb⟩

theorem PcR.drew {w : World} {p : Nat} {l : List UInt8} (h : PcR w p l) : PcR w.drew p l := h
theorem Pcn.drew {w : World} {p lo : Nat} {l : List UInt8} (h : Pcn w p l lo) : Pcn w.drew p l lo := h
theorem PcR.drewN {w : World} {p : Nat} {l : List UInt8} (h : PcR w p l) (n : Nat) : PcR (w.drewN n) p l := h
theorem PcRn.mono {w : World} {p : Nat} {l : List UInt8} {a b : Nat} (h : PcRn w p l a) (hab : b ≤ a) : PcRn w p l b := by
  obtain ⟨hv, h1, h2, h3⟩ := h
  exact ⟨hv, h1, h2, fun q hq => Nat.le_trans hab (h3 q hq)⟩
theorem PcRn.form {w : World} {p : Nat} {l : List UInt8} {a : Nat} (h : PcRn w p l a) : ∃ ao c, w.cell? ⟨p, 0, none⟩ = some (.slice ao l.length c) := by
  obtain ⟨hv, h1, h2, h3⟩ := h
  obtain ⟨ao, c, rfl, _⟩ := h2.form
  exact ⟨ao, c, (cell_of_block h1).1⟩
/-- What stays of one Pieces where the other's box is turned. -/
theorem PcR.fr {w w' : World} {p q : Nat} {l m : List UInt8} (h : PcR w p l) (hf : Fr (fun k => k ≠ q) w w') (hpq : p ≠ q) (hq : Pc w q m) : PcR w' p l := by
  obtain ⟨hv, hb, hB⟩ := h
  obtain ⟨qv, qb, qB⟩ := hq
  obtain ⟨ao, c, rfl, _⟩ := qB.form
  refine ⟨hv, (hf.block _ (Array.getElem?_eq_some_iff.1 hb).1 hpq).trans hb, ?_⟩
  rcases hB with h | ⟨g, o, d, rfl, hle, hA⟩
  · exact .inl h
  · exact .inr ⟨g, o, d, rfl, hle, hA.fr hf (fun hl => byAt_ne hA hl qb)⟩
theorem Pcn.frR {w w' : World} {p q : Nat} {l m : List UInt8} {lo : Nat} (h : Pcn w p l lo) (hf : Fr (fun k => k ≠ q) w w') (hpq : p ≠ q) (hq : PcR w q m) : Pcn w' p l lo := by
  obtain ⟨hv, hb, hB, hlo⟩ := h
  obtain ⟨qv, qb, qB⟩ := hq
  obtain ⟨ao, c, rfl, _⟩ := qB.form
  refine ⟨hv, (hf.block _ (Array.getElem?_eq_some_iff.1 hb).1 hpq).trans hb, ?_, hlo⟩
  rcases hB with h | ⟨g, o, d, rfl, hle, hA⟩
  · exact .inl h
  · exact .inr ⟨g, o, d, rfl, hle, hA.fr hf (fun hl => byAt_ne hA hl qb)⟩
/-- What stays where a block below what is held is written. -/
theorem Pcn.keep {w w' : World} {p g : Nat} {l : List UInt8} {lo : Nat} (h : Pcn w p l lo) (hf : Fr (fun k => k ≠ g) w w') (hp : p ≠ g) (hg : g < lo) : Pc w' p l := by
  obtain ⟨hv, hb, hB, hlo⟩ := h
  refine ⟨hv, (hf.block _ (Array.getElem?_eq_some_iff.1 hb).1 hp).trans hb, ?_⟩
  rcases hB with h | ⟨g', o, d, rfl, hle, hA⟩
  · exact .inl h
  · exact .inr ⟨g', o, d, rfl, hle, hA.fr hf (fun hl => by have := hlo g' rfl; omega)⟩
theorem PcRn.keep {w w' : World} {p g : Nat} {l : List UInt8} {lo : Nat} (h : PcRn w p l lo) (hf : Fr (fun k => k ≠ g) w w') (hp : p ≠ g) (hg : g < lo) : PcR w' p l := by
  obtain ⟨hv, hb, hB, hlo⟩ := h
  refine ⟨hv, (hf.block _ (Array.getElem?_eq_some_iff.1 hb).1 hp).trans hb, ?_⟩
  rcases hB with h | ⟨g', o, d, rfl, hle, hA⟩
  · exact .inl h
  · exact .inr ⟨g', o, d, rfl, hle, hA.fr hf (fun hl => by have := hlo g' rfl; omega)⟩
theorem Pc.frR {w w' : World} {p q : Nat} {l m : List UInt8} (h : Pc w p l) (hf : Fr (fun k => k ≠ q) w w') (hpq : p ≠ q) (hq : PcR w q m) : Pc w' p l := by
  obtain ⟨hv, hb, hB⟩ := h
  obtain ⟨qv, qb, qB⟩ := hq
  obtain ⟨ao, c, rfl, _⟩ := qB.form
  refine ⟨hv, (hf.block _ (Array.getElem?_eq_some_iff.1 hb).1 hpq).trans hb, ?_⟩
  rcases hB with h | ⟨g, o, d, rfl, hle, hA⟩
  · exact .inl h
  · exact .inr ⟨g, o, d, rfl, hle, hA.fr hf (fun hl => byAt_ne hA hl qb)⟩
/-- Of a slice of bytes, where its block stays. -/
theorem Bsl.frs {S : Nat → Prop} {w w' : World} {v : Value} {l : List UInt8} (h : Bsl w v l) (hf : Fr S w w') (hS : ∀ q, v.ownBlock = some q → 0 < l.length → S q) : Bsl w' v l := by
  rcases h with h | ⟨g, o, c, rfl, hle, hB⟩
  · exact .inl h
  · exact .inr ⟨g, o, c, rfl, hle, hB.fr hf (fun hl => hS g rfl hl)⟩

set_option maxRecDepth 1000000 in
theorem endR_any (p : Nat) (l : List UInt8) (w : World) (hP : PcR w p l) :
    Calls Tryd.prog 11 #[.pointer (some ⟨p, 0, none⟩)] w fun e w' => e = .returned (.string ⟨l.toArray⟩) ∧ Fr (fun k => k ≠ p) w w' ∧ PcR w' p [] := by
  obtain ⟨hv, hbox, hH⟩ := hP
  obtain ⟨ao, c, rfl, hlc, _⟩ := hH.form
  have cp := (cell_of_block hbox).1
  have fp := (cell_of_block hbox).2
  have cv := conv_bsl hH
  obtain ⟨R, hR⟩ : ∃ R, (⟨l.toArray⟩ : ByteArray) = R := ⟨_, rfl⟩
  rw [hR] at cv ⊢
  have HB := Lib.hid hbox
  clear hbox hH hR
  go_enter Tryd.func11, Tryd.ntmps11
  go_wp2
  go_ret
  exact ⟨rfl, (Fr.refl _ _).setCell _ _ (fun _ h => h rfl), _, heap_setCell_same HB.out _, .inl ⟨rfl, rfl⟩⟩

set_option maxRecDepth 1000000 in
set_option maxHeartbeats 8000000 in
theorem feedR_any (p : Nat) (xv : Value) (l b : List UInt8) (w : World) (hP : PcR w p l) (hX : Bsx w xv b) (hs : l.length + b.length ≤ 4194304) :
    Calls Tryd.prog 8 #[.pointer (some ⟨p, 0, none⟩), xv] w fun e w' => e = .returned (.string ⟨((l ++ b).take ((l ++ b).length - hold (l ++ b))).toArray⟩) ∧ Fr (fun k => k ≠ p) w w' ∧ PcRn w' p ((l ++ b).drop ((l ++ b).length - hold (l ++ b))) w.heap.size := by
  obtain ⟨hv, hbox, hH⟩ := hP
  obtain ⟨ao, c, rfl, hlc, _⟩ := hH.form
  have hpl := (Array.getElem?_eq_some_iff.1 hbox).1
  have cp := (cell_of_block hbox).1
  have AP1 := Lib.hid (app_own_b w w.heap.size (.slice none 0 0) [] l _ (World.ownsRow_nil w _ 5 1) (.inl hH) (Nat.le_refl _) (by simp; omega))
  have AP2 := Lib.hid (fun v1 w1 h hb => app_own_b w1 w.heap.size v1 l b xv h (hX.below hb) hb.size (by omega))
  have HX := Lib.hid hX
  obtain ⟨n, hn⟩ : ∃ n, l.length = n := ⟨_, rfl⟩
  obtain ⟨al, hal⟩ : ∃ a, l ++ b = a := ⟨_, rfl⟩
  rw [hn] at AP1 AP2 hlc hbox cp
  rw [List.nil_append, hn] at AP1
  rw [hal] at AP2 ⊢
  have hsm : al.length ≤ 4194304 := by rw [← hal, List.length_append]; omega
  have HBX := Lib.hid hbox
  clear hH hX hbox hn hal hs
  go_enter Tryd.func8, Tryd.ntmps8
  go_wp2_with (first
    | (at_builtin; refine wpList_append_any rfl _ _ 27 rfl _ _ rfl rfl AP1.out ?_; rintro v1 w1 ⟨ho1, hg1⟩; have hb1 : Below w.heap.size w w1 := (Below.refl _ _).grown hg1 (Nat.le_refl _) (fun q e => by cases e))
    | (at_builtin; refine wpList_append_any rfl _ _ 27 rfl _ _ rfl rfl (AP2.out _ _ ho1 hb1) ?_; rintro v2 w2 ⟨ho2, hg2⟩; have hb2 : Below w.heap.size w w2 := hb1.grown hg2 hb1.size (fun q e => (ho1.lt q e).1); obtain ⟨A2, C2, rfl, hA2⟩ := own_form ho2))
  have hB2 := (bsl_of_row rfl ho2).1
  have hlt2 := fun q e => (ho2.lt q e).1
  have hfit : al.length ≤ C2 := by
    rcases hB2 with ⟨h1, h2⟩ | ⟨g, o, d, h1, hle, _⟩
    · rw [h2]; exact Nat.zero_le _
    · injection h1 with h3 h4 h5; omega
  have hbox2 : w2.heap[p]? = some (.cells #[.slice ao n c] 29 (0, 0)) := (hb2.block _ hpl).trans HBX.out
  obtain ⟨L, hL⟩ : ∃ L, al.length = L := ⟨_, rfl⟩
  rw [hL] at hB2 hfit hsm hA2 hlt2 ⊢
  have HB2 := Lib.hid hB2
  have HL := Lib.hid hL
  have HLT := Lib.hid hlt2
  have hFr : Fr (fun k => k ≠ p) w w2 := Fr.of_below hb2 (fun k hk _ => hk)
  have HFR := Lib.hid hFr
  have hs2 := hb2.size
  clear hB2 hL ho1 hg1 hb1 ho2 hg2 hb2 hFr AP1 AP2 hlt2 cp
  go_loopw [6, 7] (fun nv kv wr => ∃ k h : Nat, kv = .int .i64 (k : Int) ∧ nv = .int .i64 ((L - h : Nat) : Int) ∧ 1 ≤ k ∧ k ≤ 4 ∧ h < k ∧ h ≤ L ∧ (h = 0 ∨ frB (al.drop (L - h)) = true) ∧ (∀ j, h < j → j < k → j ≤ L → frB (al.drop (L - j)) = false) ∧ Below w2.heap.size w2 wr) (fun _ kv _ => 4 - (intOf kv).toNat)
  case atStart => exact ⟨1, 0, rfl, rfl, by omega, by omega, by omega, by omega, .inl rfl, fun j h1 h2 _ => by omega, Below.refl _ _⟩
  case round =>
    obtain ⟨k, h, rfl, rfl, hk1, hk4, hhk, hhL, hyes, hno, hB⟩ := hrel
    obtain ⟨N, hN⟩ : ∃ N, L - h = N := ⟨_, rfl⟩
    rw [hN]
    have HN := Lib.hid hN
    clear hN
    by_cases hk : k < 4
    · by_cases hkL : k ≤ L
      · obtain ⟨g, rfl⟩ := hA2 (by omega)
        have hA : ByAt wr g 0 al := by
          rcases HB2.out with ⟨h1, _⟩ | ⟨g', o, d, h1, hle, h2⟩
          · cases h1
          · cases h1; exact h2.fr (Fr.of_below (S := fun k => k < w2.heap.size) hB (fun _ _ h => h)) (fun h => h2.lt h)
        obtain ⟨M, hM⟩ : ∃ M, L = M + k := ⟨L - k, by omega⟩
        have hi1 : (L : Int) - (k : Int) = (M : Int) := by omega
        have hi2 : L - M = k := by omega
        have hi3 : L - k = M := by omega
        have hAM := hA.drop M
        rw [Nat.zero_add] at hAM
        have FR := Lib.hid (frontR_any g M k (C2 - M) (al.drop M) wr (by rw [List.length_drop, HL.out]; omega) (by omega) (by omega) (by omega) hAM)
        have hlow : M ≤ L := by omega
        have HM := Lib.hid hM
        clear hM hA hAM
        cases hbv : frB (al.drop M)
        · rw [hbv] at FR
          have HNO := Lib.hid (And.intro hyes (And.intro hno (And.intro hB hbv)))
          clear hyes hno hB hbv
          go_wp2_with (go_at_call 22; (with_reducible refine FR.out.mono ?_); rintro e w3 ⟨rfl, hb3⟩)
          go_roundw
          case rel =>
            obtain ⟨q0, q1, q2, q3⟩ := HNO.out
            refine ⟨k + 1, h, by go_num, by rw [HN.out], by omega, by omega, by omega, hhL, q0, fun j h1 h2 h3 => ?_, q2.trans (hb3.mono q2.size)⟩
            rcases Nat.lt_or_ge j k with h4 | h4
            · exact q1 j h1 h4 h3
            · obtain rfl : j = k := by omega
              rw [hi3]; exact q3
          case measure => simp [intOf]; omega
        · rw [hbv] at FR
          have HNO := Lib.hid (And.intro hB hbv)
          clear hyes hno hB hbv
          go_wp2_with (go_at_call 22; (with_reducible refine FR.out.mono ?_); rintro e w3 ⟨rfl, hb3⟩)
          go_roundw
          case rel =>
            obtain ⟨q2, q3⟩ := HNO.out
            exact ⟨k + 1, k, by go_num, by rw [hi3], by omega, by omega, by omega, by omega, .inr (by rw [hi3]; exact q3), fun j h1 h2 h3 => by omega, q2.trans (hb3.mono q2.size)⟩
          case measure => simp [intOf]; omega
      · have HNO := Lib.hid (And.intro hyes (And.intro hno hB))
        clear hyes hno hB
        go_wp2
        go_roundw
        case rel =>
          obtain ⟨q0, q1, q2⟩ := HNO.out
          exact ⟨k + 1, h, by go_num, by rw [HN.out], by omega, by omega, by omega, hhL, q0, fun j h1 h2 h3 => q1 j h1 (by omega) h3, q2⟩
        case measure => simp [intOf]; omega
    · have hh : hold al = h := hold_eq (by omega) (by rw [HL.out]; omega) (fun j h1 h2 h3 => by rw [HL.out] at h3 ⊢; exact hno j h1 (by omega) h3) (by rw [HL.out]; exact hyes)
      have hBr := HB2.out.below hB
      have hNL : N ≤ L := by have := HN.out; omega
      have hadr := HB2.out.addr
      obtain ⟨A', hsl, hsB, hsO⟩ := slice_from A2 L C2 N hNL hadr hfit
      have hst := slice_to A2 L C2 N hNL hadr hfit
      have hpr : wr.heap[p]? = some (.cells #[.slice ao n c] 29 (0, 0)) := (hB.block _ (by omega)).trans hbox2
      have cpr := (cell_of_block hpr).1
      have fpr := (cell_of_block hpr).2
      have cv := fun u => conv_bsl ((hBr.takes hNL).setBox hpr (u := u))
      have HF : Hid (Fr (fun k => k ≠ p) w wr) := Lib.hid (HFR.out.below hB (fun k hk _ => by have := HFR.out.size; omega))
      have HD := Lib.hid (And.intro (hsB wr al hBr) hpr)
      have HO := Lib.hid (fun q (e : (Value.slice A' (L - N) (C2 - N)).ownBlock = some q) => HLT.out q (by rw [← hsO (L - N) (C2 - N)]; exact e))
      have HH := Lib.hid (show al.length - hold al = N by rw [hh, HL.out]; exact HN.out)
      obtain ⟨R, hR⟩ : ∃ R, (⟨(al.take N).toArray⟩ : ByteArray) = R := ⟨_, rfl⟩
      rw [hR] at cv
      have HR := Lib.hid hR
      clear hh hBr hadr hsB hsO hpr hyes hno hB hR hbox2
      go_wp2
      go_ret
      rw [HH.out, HR.out]
      exact ⟨rfl, HF.out.setCell _ _ (fun _ h => h rfl), _, heap_setCell_same HD.out.2 _, HD.out.1.setBox HD.out.2, HO.out⟩
end Go.Proofs.YtokbmihjpllgpaaDoor
