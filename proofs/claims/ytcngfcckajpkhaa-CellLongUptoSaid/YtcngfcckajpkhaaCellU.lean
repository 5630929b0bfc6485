/- A cut of clusters: plain; cell.Cut. -/
import Derived.Test.YtcngfcckajpkhaaCellT
import Derived.Test.YtcngfcckajpkhaaRegInv
set_option linter.unusedVariables false
set_option linter.unusedSimpArgs false
namespace Go.Proofs.Ytcngfcckajpkhaa.C

/-- So many clusters go into so many cells. -/
def cutN : List Cl → Int → Nat
  | [], _ => 0
  | c :: l, n => if (c.cells : Int) ≤ n then cutN l (n - c.cells) + 1 else 0
theorem cutN_stop (x : Cl) (post : List Cl) : ∀ (pre : List Cl) (n : Int), (cells pre : Int) ≤ n → n < (cells pre + x.cells : Nat) → cutN (pre ++ x :: post) n = pre.length := by
  intro pre
  induction pre with
  | nil =>
    intro n h1 h2
    rw [List.nil_append]
    unfold cutN
    rw [if_neg (by have : cells [] = 0 := rfl; omega)]
    rfl
  | cons c pre ih =>
    intro n h1 h2
    rw [cells_cons] at h1 h2
    rw [List.cons_append]
    unfold cutN
    rw [if_pos (by omega), ih _ (by omega) (by omega)]
    rfl
theorem cutN_all : ∀ (l : List Cl) (n : Int), (cells l : Int) ≤ n → cutN l n = l.length := by
  intro l
  induction l with
  | nil => intro n _; rfl
  | cons c l ih =>
    intro n h
    rw [cells_cons] at h
    unfold cutN
    rw [if_pos (by omega), ih _ (by omega)]
    rfl
theorem cutN_le : ∀ (l : List Cl) (n : Int), cutN l n ≤ l.length := by
  intro l
  induction l with
  | nil => intro n; exact Nat.le_refl _
  | cons c l ih =>
    intro n
    unfold cutN
    by_cases h : (c.cells : Int) ≤ n
    · rw [if_pos h]; have := ih (n - c.cells); simp; omega
    · rw [if_neg h]; exact Nat.zero_le _
/-- What is in the front, and one more would be too many. -/
theorem cutN_is : ∀ (l : List Cl) (n : Int), 0 ≤ n → (cells (l.take (cutN l n)) : Int) ≤ n ∧ (∀ x, l[cutN l n]? = some x → n < (cells (l.take (cutN l n)) + x.cells : Nat)) := by
  intro l
  induction l with
  | nil => intro n h; exact ⟨by simpa [cutN, cells] using h, fun x hx => by simp [cutN] at hx⟩
  | cons c l ih =>
    intro n h
    unfold cutN
    by_cases h1 : (c.cells : Int) ≤ n
    · rw [if_pos h1]
      obtain ⟨i1, i2⟩ := ih (n - c.cells) (by omega)
      rw [List.take_succ_cons, cells_cons]
      refine ⟨by omega, fun x hx => ?_⟩
      have := i2 x (by simpa using hx)
      omega
    · rw [if_neg h1]
      refine ⟨by simpa [cells] using h, fun x hx => ?_⟩
      obtain rfl : c = x := by simpa using hx
      simp [cells]; omega
/-- The bytes of the front. -/
def cutA (t : List U.Tk) (n : Int) : Nat := atF t (cutN (clus t) n)
theorem atF_le (t : List U.Tk) (k : Nat) : atF t k ≤ U.wsum t := pl_le t (sgF t k)
theorem cutA_le (t : List U.Tk) (n : Int) : cutA t n ≤ U.wsum t := atF_le t _
end Go.Proofs.Ytcngfcckajpkhaa.C
namespace Go.Proofs.Ytcngfcckajpkhaa
open Go.RowKit Go.Shelf Go.Lib Go.BigFrame
attribute [local go_sem] Oper.semAt_some calmUpon

def cutI (s : ByteArray) (n : Int) : ByteArray × ByteArray × Nat :=
  if n < 0 then (⟨#[]⟩, ⟨#[]⟩, 1) else (s.extract 0 (C.cutA (U.toks s.data.toList) n), s.extract (C.cutA (U.toks s.data.toList) n) s.size, 0)
theorem ext_all (s : ByteArray) : s.extract 0 s.size = s := by
  apply ByteArray.ext
  simp
theorem ext_none (s : ByteArray) : s.extract s.size s.size = ⟨#[]⟩ := by
  apply ByteArray.ext
  simp

theorem Bs.drew {w : World} {os : List Obj} {A : World} (h : Bs w os A) : Bs w os A.drew := ⟨below_dn h.below 1, h.size, h.at_⟩
theorem cell_setCell_ne (W : World) (p a : Addr) (v : Value) (h : p.block ≠ a.block) : (W.setCell p v).cell? a = W.cell? a := by
  have e := Below.heap_setCell W p v a.block (Ne.symm h)
  simp only [World.cell?, e]

/-- The boxes of Cut. -/
def bxU (s : ByteArray) (n : Int) (a b : ByteArray) (e : Nat) : List Obj := [.cells #[.string s] 9, .cells #[.int .i64 n] 3, .cells #[.string a] 9, .cells #[.string b] 9, .cells #[.int .i64 (e : Int)] 46, .cells #[.string s] 9]

set_option maxRecDepth 1000000 in
set_option maxHeartbeats 4000000 in
theorem cut_any (s : ByteArray) (n : Int) (w : World) (hs : s.size ≤ 4194304) (hb : -9223372036854775808 ≤ n ∧ n ≤ 9223372036854775807) :
    Calls Try.prog 31 #[.string s, .int .i64 n] w fun e w' => e = .returned (.tuple #[.string (cutI s n).1, .string (cutI s n).2.1, .int .i64 ((cutI s n).2.2 : Int)]) ∧ Below w.heap.size w w' := by
  obtain ⟨R1, R2, R3, hR⟩ : ∃ R1 R2 R3, cutI s n = (R1, R2, R3) := ⟨_, _, _, rfl⟩
  rw [hR]
  have HR := Lib.hid hR
  clear hR
  have hll := toks_len (s := s)
  have hlw := U.wsum_toks s.data.toList
  rw [← U.size_eq] at hlw
  have hlen : (C.clus (U.toks s.data.toList)).length ≤ s.size := Nat.le_trans (C.clus_length_le _) hll
  have hcl := C.clus_cells_le (U.toks s.data.toList)
  have ST := C.clus_steps (U.toks s.data.toList) (C.toks_14 _)
  have hae := C.atF_end (U.toks s.data.toList)
  rw [hlw] at ST hae
  by_cases hneg : n < 0
  · have hr := HR.out
    unfold cutI at hr
    rw [if_pos hneg] at hr
    obtain ⟨rfl, h2⟩ := Prod.mk.inj hr
    obtain ⟨rfl, rfl⟩ := Prod.mk.inj h2
    clear ST hcl hr h2
    refine (callsIn_wide (n := 0)).1 (callsIn_of_wp_marks Try.func31 rfl trivial (wpIn_wide.2 ?_) rfl)
    simp only [Try.ntmps31, List.size_toArray, List.length_cons, List.length_nil, Nat.reduceAdd, Nat.reduceSub, Array.replicate_succ, Array.replicate_zero, List.push_toArray, List.append_toArray, List.nil_append, List.cons_append]
    go_wp2
    exact ⟨.tuple #[.string ⟨#[]⟩, .string ⟨#[]⟩, .int .i64 1], by simp [results, Try.results31, go_sem], rfl, ((((Below.refl _ _).alloc (Nat.le_refl _) _).alloc (by simp) _).alloc (by simp; omega) _ |>.alloc (by simp; omega) _).alloc (by simp; omega) _⟩
  refine (callsIn_wide (n := 0)).1 (callsIn_of_wp_marks Try.func31 rfl trivial (wpIn_wide.2 ?_) rfl)
  simp only [Try.ntmps31, List.size_toArray, List.length_cons, List.length_nil, Nat.reduceAdd, Nat.reduceSub, Array.replicate_succ, Array.replicate_zero, List.push_toArray, List.append_toArray, List.nil_append, List.cons_append]
  go_wp2_with (go_at_call 30; refine (clusters_call _ _).mono ?_; rintro e w' ⟨rfl, rfl⟩)
  obtain ⟨W0, hW0⟩ : ∃ W0, (((((w.alloc (.cells #[.string s] 9)).alloc (.cells #[.int .i64 n] 3)).alloc (.cells #[.string ⟨#[]⟩] 9)).alloc (.cells #[.string ⟨#[]⟩] 9)).alloc (.cells #[.int .i64 0] 46)).alloc (.cells #[.string s] 9) = W0 := ⟨_, rfl⟩
  rw [hW0]
  have hz1 : W0.heap.size ≤ w.heap.size + 6 := by rw [← hW0]; simp
  have hz2 : w.heap.size + 6 ≤ W0.heap.size := by rw [← hW0]; simp
  have hT : Bs w (bxU s n ⟨#[]⟩ ⟨#[]⟩ 0) W0 := by
    rw [← hW0]
    exact ((((((Bs.nil w).snoc _ (by simp)).snoc _ (by simp)).snoc _ (by simp)).snoc _ (by simp)).snoc _ (by simp)).snoc _ (by simp)
  have hb1 : W0.cell? ⟨w.heap.size + 5, 0, none⟩ = some (.string s) := (hT.cell 5 rfl).1
  clear hW0
  refine wp_rf W0 rfl enters_clusters (clusters_in s hs (w.heap.size + 5) W0 hb1) (Fr.refl _ _) (fun k h => by omega) (fun _ => rfl)
    (fun pre W => Bs w (bxU s (n - (C.cells pre : Int)) ⟨#[]⟩ ⟨#[]⟩ 0) W ∧ (C.cells pre : Int) ≤ n)
    (fun c pre W => c = .ret ∧ ∃ (a : Nat) (m : Int), Bs w (bxU s m (s.extract 0 a) (s.extract a s.size) 0) W ∧ C.cutA (U.toks s.data.toList) n = a) ?hI ?hIx ?h0 ?round ?done ?stop
  case hI => rintro pre A B hf ⟨h, h2⟩; exact ⟨h.fr hf (fun k hk => by have : k < w.heap.size + 6 := hk; omega), h2⟩
  case hIx => rintro c pre A B hf ⟨h1, x, m, h, h2⟩; exact ⟨h1, x, m, h.fr hf (fun k hk => by have : k < w.heap.size + 6 := hk; omega), h2⟩
  case h0 =>
    have e : n - (C.cells [] : Int) = n := by simp [C.cells]
    exact ⟨by rw [e]; exact hT, by simp [C.cells]; omega⟩
  case round =>
    rintro pre x post W hx hsz' ⟨hT, hov⟩
    have hxm := hcl x (by rw [hx]; simp)
    have hpm := C.cells_le2 pre (fun c hc => hcl c (by rw [hx]; simp [hc]))
    have hpl : pre.length ≤ 4194304 := by rw [hx] at hlen; simp at hlen; omega
    obtain ⟨e1, e2, e3, e4, e5, e6, e7, e8, e9, e10⟩ := ST pre.length x (by rw [hx]; simp)
    clear e2 e3 e5 e6 e7 e8 e9
    have hxa : x.at_ ≤ s.size := by omega
    have hcut : n < ((C.cells pre + x.cells : Nat) : Int) → C.cutA (U.toks s.data.toList) n = x.at_ := by
      intro h
      unfold C.cutA
      rw [hx, C.cutN_stop x post pre n hov h, e1]
    have HC := Lib.hid hcut
    unfold encC
    clear hx hcl hlen ST e1 e4 e10 HR hcut
    gi_wp2
    refine ⟨(Fr.refl _ _).alloc _, fun W3 hf3 hs3 hr3 => ?_⟩
    have hx3 : W3.heap[W.heap.size]? = some (.cells #[.int .i64 (x.at_ : Int), .int .i64 (x.len : Int), .int .i64 (x.frm : Int), .int .i64 (x.to_ : Int), .int .i64 (x.cells : Int)] 33 (0, 0)) := rx_new (lx := W0.heap.size + 1) hf3 (by omega)
    have hT3 := (hT.fr (S := fun _ => True) ((Fr.refl _ _).alloc (.cells #[.int .i64 (x.at_ : Int), .int .i64 (x.len : Int), .int .i64 (x.frm : Int), .int .i64 (x.to_ : Int), .int .i64 (x.cells : Int)] 33)) (fun _ _ => trivial)).fr hf3 (fun k hk => by have : k < w.heap.size + 6 := hk; omega)
    have c0 : W3.cell? ⟨W.heap.size, 0, none⟩ = some (.int .i64 (x.at_ : Int)) := by simp [World.cell?, hx3]
    have c4 : W3.cell? ⟨W.heap.size, 4, none⟩ = some (.int .i64 (x.cells : Int)) := by simp [World.cell?, hx3]
    have hsep : w.heap.size + 6 ≤ W.heap.size := by have := hT.size; exact this
    have b0 : W3.cell? ⟨w.heap.size, 0, none⟩ = some (.string s) := (hT3.cell 0 rfl).1
    obtain ⟨b1, f1⟩ := hT3.cell 1 (by rfl)
    obtain ⟨b2, f2⟩ := hT3.cell 2 (by rfl)
    obtain ⟨b3, f3⟩ := hT3.cell 3 (by rfl)
    obtain ⟨b4, f4⟩ := hT3.cell 4 (by rfl)
    have hK := Lib.hid hT3
    clear hT3 hT hf3 hs3 hr3 hx3
    by_cases hcut : n < ((C.cells pre + x.cells : Nat) : Int)
    · have hlt : n - (C.cells pre : Int) - (x.cells : Int) < 0 := by omega
      gi_wp2
      have hb3 := (hK.out.set 1 rfl (.int .i64 (n - (C.cells pre : Int) - (x.cells : Int))))
      obtain ⟨W4, hW4⟩ : ∃ W4, (W3.setCell ⟨w.heap.size + 1, 0, none⟩ (.int .i64 (n - (C.cells pre : Int) - (x.cells : Int)))).drew = W4 := ⟨_, rfl⟩
      have c0' : W4.cell? ⟨W.heap.size, 0, none⟩ = some (.int .i64 (x.at_ : Int)) := by rw [← hW4]; exact (cell_setCell_ne W3 _ _ _ (by simp; omega)).trans c0
      have hB4 : Bs w (bxU s (n - (C.cells pre : Int) - (x.cells : Int)) ⟨#[]⟩ ⟨#[]⟩ 0) W4 := by rw [← hW4]; exact hb3.drew
      have hF4 : Fr (fun k => k = w.heap.size + 5 ∨ W0.heap.size ≤ k ∧ k < W0.heap.size + 2 + 6) W3 W4 := by rw [← hW4]; exact ((Fr.refl _ _).setCell _ _ (fun _ h => by simp at h; omega)).drew
      refine wpIn_region_steps (fun L A Y => ∃ x0 x1 x2 x3 x4 x5 x6 x7 xa xb, A = { tmps := #[.string s, .int .i64 n, .pointer (some ⟨w.heap.size, 0, none⟩), .pointer (some ⟨w.heap.size + 1, 0, none⟩), .pointer (some ⟨w.heap.size + 1 + 1, 0, none⟩), .pointer (some ⟨w.heap.size + 1 + 1 + 1, 0, none⟩), .pointer (some ⟨w.heap.size + 1 + 1 + 1 + 1, 0, none⟩), .pointer (some ⟨W.heap.size, 0, none⟩), .int .i64 n, .bool false, .string s, .func (.func 48) #[] #[.pointer (some ⟨w.heap.size + 1 + 1 + 1 + 1 + 1, 0, none⟩)], .agg #[.int .i64 (x.at_ : Int), .int .i64 (x.len : Int), .int .i64 (x.frm : Int), .int .i64 (x.to_ : Int), .int .i64 (x.cells : Int)], .int .i64 (n - (C.cells pre : Int)), .pointer (some ⟨W.heap.size, 4, none⟩), .int .i64 (x.cells : Int), .int .i64 (n - (C.cells pre : Int) - (x.cells : Int)), .int .i64 (n - (C.cells pre : Int) - (x.cells : Int)), .bool true, x0, x1, x2, x3, x4, x5, x6, x7, undef], defers := [] }
        ∧ (L 0 = true → x0 = .string s) ∧ (L 1 = true → x1 = .pointer (some ⟨W.heap.size, 0, none⟩)) ∧ (L 2 = true → x2 = .int .i64 (x.at_ : Int)) ∧ (L 3 = true → x3 = .string (s.extract 0 x.at_))
        ∧ (L 4 = true → x4 = .string s) ∧ (L 5 = true → x5 = .pointer (some ⟨W.heap.size, 0, none⟩)) ∧ (L 6 = true → x6 = .int .i64 (x.at_ : Int)) ∧ (L 7 = true → x7 = .string (s.extract x.at_ s.size))
        ∧ (L 8 = true → xa = s.extract 0 x.at_) ∧ (L 9 = true → xb = s.extract x.at_ s.size)
        ∧ Bs w (bxU s (n - (C.cells pre : Int) - (x.cells : Int)) xa xb 0) Y ∧ Y.cell? ⟨W.heap.size, 0, none⟩ = some (.int .i64 (x.at_ : Int)) ∧ Fr (fun k => k = w.heap.size + 5 ∨ W0.heap.size ≤ k ∧ k < W0.heap.size + 2 + 6) W3 Y)
        (by kernel_rfl) (by kernel_rfl) ?_ ⟨?_, ?_, ?_, ?_, ?_, ?_, ?_, ?_, ?_, ?_, ?_, trivial⟩ ?_
      · rw [hW4]
        exact ⟨_, _, _, _, _, _, _, _, _, _, rfl, nofun, nofun, nofun, nofun, nofun, nofun, nofun, nofun, nofun, nofun, hB4, c0', hF4⟩
      · rintro L A Y hclo ⟨x0, x1, x2, x3, x4, x5, x6, x7, xa, xb, rfl, i0, i1, i2, i3, i4, i5, i6, i7, i8, i9, hB, hc, hf⟩ hi hd
        have b0 : Y.cell? ⟨w.heap.size, 0, none⟩ = some (.string s) := (hB.cell 0 rfl).1
        refine calmUpon_by (fun K hK => ?_)
        go_simp
        exact hK _ _ ⟨_, _, _, _, _, _, _, _, _, _, rfl, fun _ => rfl, i1, i2, i3, i4, i5, i6, i7, i8, i9, hB, hc, hf⟩
      · rintro L A Y hclo ⟨x0, x1, x2, x3, x4, x5, x6, x7, xa, xb, rfl, i0, i1, i2, i3, i4, i5, i6, i7, i8, i9, hB, hc, hf⟩ hi hd
        refine calmUpon_by (fun K hK => ?_)
        go_simp
        exact hK _ _ ⟨_, _, _, _, _, _, _, _, _, _, rfl, i0, fun _ => rfl, i2, i3, i4, i5, i6, i7, i8, i9, hB, hc, hf⟩
      · rintro L A Y hclo ⟨x0, x1, x2, x3, x4, x5, x6, x7, xa, xb, rfl, i0, i1, i2, i3, i4, i5, i6, i7, i8, i9, hB, hc, hf⟩ hi hd
        have d1 : L 1 = true := hd ⟨1, .data⟩ (by simp) rfl
        obtain rfl := i1 d1
        refine calmUpon_by (fun K hK => ?_)
        go_simp
        exact hK _ _ ⟨_, _, _, _, _, _, _, _, _, _, rfl, i0, i1, fun _ => rfl, i3, i4, i5, i6, i7, i8, i9, hB, hc, hf⟩
      · rintro L A Y hclo ⟨x0, x1, x2, x3, x4, x5, x6, x7, xa, xb, rfl, i0, i1, i2, i3, i4, i5, i6, i7, i8, i9, hB, hc, hf⟩ hi hd
        have d0 : L 0 = true := hd ⟨0, .data⟩ (by simp) rfl
        have d2 : L 2 = true := hd ⟨2, .data⟩ (by simp) rfl
        obtain rfl := i0 d0
        obtain rfl := i2 d2
        refine calmUpon_by (fun K hK => ?_)
        go_simp
        exact hK _ _ ⟨_, _, _, _, _, _, _, _, _, _, rfl, i0, i1, i2, fun _ => rfl, i4, i5, i6, i7, i8, i9, hB, hc, hf⟩
      · rintro L A Y hclo ⟨x0, x1, x2, x3, x4, x5, x6, x7, xa, xb, rfl, i0, i1, i2, i3, i4, i5, i6, i7, i8, i9, hB, hc, hf⟩ hi hd
        have b0 : Y.cell? ⟨w.heap.size, 0, none⟩ = some (.string s) := (hB.cell 0 rfl).1
        refine calmUpon_by (fun K hK => ?_)
        go_simp
        exact hK _ _ ⟨_, _, _, _, _, _, _, _, _, _, rfl, i0, i1, i2, i3, fun _ => rfl, i5, i6, i7, i8, i9, hB, hc, hf⟩
      · rintro L A Y hclo ⟨x0, x1, x2, x3, x4, x5, x6, x7, xa, xb, rfl, i0, i1, i2, i3, i4, i5, i6, i7, i8, i9, hB, hc, hf⟩ hi hd
        refine calmUpon_by (fun K hK => ?_)
        go_simp
        exact hK _ _ ⟨_, _, _, _, _, _, _, _, _, _, rfl, i0, i1, i2, i3, i4, fun _ => rfl, i6, i7, i8, i9, hB, hc, hf⟩
      · rintro L A Y hclo ⟨x0, x1, x2, x3, x4, x5, x6, x7, xa, xb, rfl, i0, i1, i2, i3, i4, i5, i6, i7, i8, i9, hB, hc, hf⟩ hi hd
        have d5 : L 5 = true := hd ⟨5, .data⟩ (by simp) rfl
        obtain rfl := i5 d5
        refine calmUpon_by (fun K hK => ?_)
        go_simp
        exact hK _ _ ⟨_, _, _, _, _, _, _, _, _, _, rfl, i0, i1, i2, i3, i4, i5, fun _ => rfl, i7, i8, i9, hB, hc, hf⟩
      · rintro L A Y hclo ⟨x0, x1, x2, x3, x4, x5, x6, x7, xa, xb, rfl, i0, i1, i2, i3, i4, i5, i6, i7, i8, i9, hB, hc, hf⟩ hi hd
        have d4 : L 4 = true := hd ⟨4, .data⟩ (by simp) rfl
        have d6 : L 6 = true := hd ⟨6, .data⟩ (by simp) rfl
        obtain rfl := i4 d4
        obtain rfl := i6 d6
        refine calmUpon_by (fun K hK => ?_)
        go_simp
        exact hK _ _ ⟨_, _, _, _, _, _, _, _, _, _, rfl, i0, i1, i2, i3, i4, i5, i6, fun _ => rfl, i8, i9, hB, hc, hf⟩
      · rintro L A Y hclo ⟨x0, x1, x2, x3, x4, x5, x6, x7, xa, xb, rfl, i0, i1, i2, i3, i4, i5, i6, i7, i8, i9, hB, hc, hf⟩ hi hd
        have d3 : L 3 = true := hd ⟨3, .data⟩ (by simp) rfl
        obtain rfl := i3 d3
        obtain ⟨b2, f2⟩ := hB.cell 2 (by rfl)
        refine calmUpon_by (fun K hK => ?_)
        go_simp
        refine hK _ _ ⟨_, _, _, _, _, _, _, _, _, _, rfl, i0, i1, i2, i3, i4, i5, i6, i7, fun _ => rfl, i9, ?_, ?_, ?_⟩
        · exact hB.set 2 rfl (.string (s.extract 0 x.at_))
        · exact (cell_setCell_ne Y _ _ _ (by simp; omega)).trans hc
        · exact hf.setCell _ _ (fun _ h => by simp at h; omega)
      · rintro L A Y hclo ⟨x0, x1, x2, x3, x4, x5, x6, x7, xa, xb, rfl, i0, i1, i2, i3, i4, i5, i6, i7, i8, i9, hB, hc, hf⟩ hi hd
        have d7 : L 7 = true := hd ⟨7, .data⟩ (by simp) rfl
        obtain rfl := i7 d7
        obtain ⟨b3, f3⟩ := hB.cell 3 (by rfl)
        refine calmUpon_by (fun K hK => ?_)
        go_simp
        refine hK _ _ ⟨_, _, _, _, _, _, _, _, _, _, rfl, i0, i1, i2, i3, i4, i5, i6, i7, i8, fun _ => rfl, ?_, ?_, ?_⟩
        · exact hB.set 3 rfl (.string (s.extract x.at_ s.size))
        · exact (cell_setCell_ne Y _ _ _ (by simp; omega)).trans hc
        · exact hf.setCell _ _ (fun _ h => by simp at h; omega)
      · rintro L A Y hclo ⟨x0, x1, x2, x3, x4, x5, x6, x7, xa, xb, rfl, i0, i1, i2, i3, i4, i5, i6, i7, i8, i9, hB, hc, hf⟩ hi hd
        obtain ⟨b4, f4⟩ := hB.cell 4 (by rfl)
        refine calmUpon_by (fun K hK => ?_)
        go_simp
        refine hK _ _ ⟨_, _, _, _, _, _, _, _, _, _, rfl, i0, i1, i2, i3, i4, i5, i6, i7, i8, i9, ?_, ?_, ?_⟩
        · exact hB.set 4 rfl (.int .i64 0)
        · exact (cell_setCell_ne Y _ _ _ (by simp; omega)).trans hc
        · exact hf.setCell _ _ (fun _ h => by simp at h; omega)
      · rintro L A Y hL ⟨x0, x1, x2, x3, x4, x5, x6, x7, xa, xb, rfl, i0, i1, i2, i3, i4, i5, i6, i7, i8, i9, hB, hc, hf⟩
        obtain rfl := i8 (hL 8 (by decide))
        obtain rfl := i9 (hL 9 (by decide))
        have hcu := HC.out hcut
        have hcB := Lib.hid (And.intro hcu (And.intro hf hB))
        clear hcu hf hB hc HC
        gi_wp2
        exact ⟨hcB.out.2.1, rfl, _, by rw [hcB.out.1]; exact hcB.out.2.2⟩
    · have hlt : ¬ n - (C.cells pre : Int) - (x.cells : Int) < 0 := by omega
      gi_wp2
      refine ⟨(Fr.refl _ _).setCell _ _ (fun _ h => by simp at h; omega), ?_, ?_⟩
      · rw [C.cells_snoc, Int.natCast_add, ← Int.sub_sub]
        exact hK.out.set 1 rfl (.int .i64 (n - (C.cells pre : Int) - (x.cells : Int)))
      · rw [C.cells_snoc]; omega
  case done =>
    rintro W ⟨hT, hov⟩ hD
    have hr := HR.out
    unfold cutI C.cutA at hr
    rw [if_neg (by omega), C.cutN_all _ _ hov, hae, ext_all, ext_none] at hr
    obtain ⟨rfl, h2⟩ := Prod.mk.inj hr
    obtain ⟨rfl, rfl⟩ := Prod.mk.inj h2
    have b0 : W.cell? ⟨w.heap.size, 0, none⟩ = some (.string s) := (hT.cell 0 rfl).1
    obtain ⟨b2, f2⟩ := hT.cell 2 (by rfl)
    obtain ⟨b3, f3⟩ := hT.cell 3 (by rfl)
    obtain ⟨b4, f4⟩ := hT.cell 4 (by rfl)
    have HB := Lib.hid hT
    clear ST hcl hov hT hr h2 hae hlw
    go_wp2
    have hS := ((HB.out.set 2 rfl (.string s)).set 3 rfl (.string ⟨#[]⟩)).set 4 rfl (.int .i64 0)
    refine ⟨by simp, .inl ⟨_, _, rfl, run_takeDeferred (by rw [Below.heap_setCell _ _ _ _ (by simp; omega), Below.heap_setCell _ _ _ _ (by simp; omega), Below.heap_setCell _ _ _ _ (by simp; omega)]; exact hD), ?_⟩⟩
    have hS3 := hS.fr (S := fun k => k < w.heap.size + 6) ((Fr.refl _ _).putObj W0.heap.size (Obj.deferred none) (fun _ h => by omega)) (fun k h => h)
    have v1 := (hS3.cell 2 (by rfl)).1
    have v2 := (hS3.cell 3 (by rfl)).1
    have v3 := (hS3.cell 4 (by rfl)).1
    exact ⟨.tuple #[.string s, .string ⟨#[]⟩, .int .i64 0], by simp [results, Try.results31, go_sem, v1, v2, v3], rfl, hS3.below⟩
  case stop =>
    rintro c pre W hpx _ ⟨rfl, a, m, hT, hov⟩ hD
    have hr := HR.out
    unfold cutI at hr
    rw [if_neg (by omega), hov] at hr
    obtain ⟨rfl, h2⟩ := Prod.mk.inj hr
    obtain ⟨rfl, rfl⟩ := Prod.mk.inj h2
    clear ST hcl
    go_wp2
    refine ⟨by simp, .inl ⟨_, _, rfl, run_takeDeferred hD, ?_⟩⟩
    have hS3 := hT.fr (S := fun k => k < w.heap.size + 6) ((Fr.refl _ _).putObj W0.heap.size (Obj.deferred none) (fun _ h => by omega)) (fun k h => h)
    have v1 := (hS3.cell 2 (by rfl)).1
    have v2 := (hS3.cell 3 (by rfl)).1
    have v3 := (hS3.cell 4 (by rfl)).1
    exact ⟨.tuple #[.string (s.extract 0 a), .string (s.extract a s.size), .int .i64 0], by simp [results, Try.results31, go_sem, v1, v2, v3], rfl, hS3.below⟩
end Go.Proofs.Ytcngfcckajpkhaa
