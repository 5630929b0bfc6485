/- The law of what is told: the caller's own; Pieces apart. -/
import Derived.Test.YtokbmihjpllgpaaDoorPcs
import Derived.Deep.AppendLies
import Derived.Lib.SlBytesConst
set_option linter.unusedVariables false
set_option linter.unusedSimpArgs false
namespace Go.Proofs.YtokbmihjpllgpaaDoor
open Go.RowKit Go.Shelf Go.Lib Go.BigFrame
attribute [local go_sem] Oper.semAt_some

theorem Tryd.infoI32 : (Tryd.prog.info? 21).map (fun i => (i.zero, i.size, i.bytes)) = some (some (.int .i32 0), 1, 4) := by kernel_rfl
theorem Tryd.infoI64 : (Tryd.prog.info? 3).map (fun i => (i.zero, i.size, i.bytes)) = some (some (.int .i64 0), 1, 8) := by kernel_rfl
theorem runesAt_own {w : World} {base g cap n : Nat} {l : List Int} (hn : l.length = n) (h : w.ownsRow base 21 1 (.slice (some ⟨g, 0, none⟩) n cap) n (l.map (Value.int .i32))) : RunesAt w g l := fun j x hx => row_cell h j _ (by simp [hx])
/-- A row that may be written: all cells below n are there. -/
def Wr (w : World) (A : Option Addr) (n : Nat) (t : TypeId) : Prop := ∀ g, A = some ⟨g, 0, none⟩ → ∃ cur, w.heap[g]? = some (.cells cur t (0, 0)) ∧ n ≤ cur.size
theorem own_wr {w : World} {base : Nat} {t : TypeId} {A : Option Addr} {n c : Nat} {xs : List Value} (h : w.ownsRow base t 1 (.slice A n c) n xs) : Wr w A n t := fun g hg => by
  subst hg
  rcases h.2 with ⟨h1, _⟩ | ⟨g', cap, cur, h1, _, h3, h4, h5, h6, _⟩
  · cases h1
  · cases h1; exact ⟨cur, h3, by omega⟩
theorem Wr.at {w : World} {g n : Nat} {t : TypeId} (h : Wr w (some ⟨g, 0, none⟩) n t) {k : Nat} (hk : k < n) : (∃ v, w.cell? ⟨g, k, none⟩ = some v) ∧ w.frozen? ⟨g, k, none⟩ = false := by
  obtain ⟨cur, h1, h2⟩ := h g rfl
  refine ⟨⟨cur[k], ?_⟩, ?_⟩
  · simp only [World.cell?, h1]
    simp only [Array.getElem?_eq_getElem (show k < cur.size by omega)]
    rfl
  · simp [World.frozen?, h1]
theorem Wr.set {w : World} {g n : Nat} {t : TypeId} (h : Wr w (some ⟨g, 0, none⟩) n t) (k : Nat) (v : Value) : Wr (w.setCell ⟨g, k, none⟩ v) (some ⟨g, 0, none⟩) n t := fun g' hg => by
  cases hg
  obtain ⟨cur, h1, h2⟩ := h g rfl
  exact ⟨_, heap_setCell_row h1, by simpa using h2⟩

theorem Wr.fr {w w' : World} {A : Option Addr} {n : Nat} {t : TypeId} {S : Nat → Prop} (h : Wr w A n t) (hf : Fr S w w') (hS : ∀ g, A = some ⟨g, 0, none⟩ → S g) : Wr w' A n t := fun g hg => by
  obtain ⟨cur, h1, h2⟩ := h g hg
  exact ⟨cur, (hf.block _ (Array.getElem?_eq_some_iff.1 h1).1 (hS g hg)).trans h1, h2⟩
theorem own_fr {w w' : World} {b n c : Nat} {e : TypeId} {A : Option Addr} {xs : List Value} {S : Nat → Prop} (h : w.ownsRow b e 1 (.slice A n c) n xs) (hf : Fr S w w') (hS : ∀ g, A = some ⟨g, 0, none⟩ → S g) : w'.ownsRow b e 1 (.slice A n c) n xs := by
  refine ⟨h.1, ?_⟩
  rcases h.2 with h0 | ⟨g, cap, cur, h1, h2, h3, h4⟩
  · exact .inl h0
  · cases h1
    exact .inr ⟨g, c, cur, rfl, h2, (hf.block _ (Array.getElem?_eq_some_iff.1 h3).1 (hS g rfl)).trans h3, h4⟩
set_option maxRecDepth 1000000 in
/-- Two elements appended: what was told stays a row that may be written; nothing else turns. -/
theorem app_own {w : World} {base n c : Nat} {T e : TypeId} {A : Option Addr} {xs : List Value} (i : TypeInfo) (z : Value) (bytes : Nat) (ht : Tryd.prog.underlying T = some (.slice e)) (hi : Tryd.prog.info? e = some i) (hz : i.zero = some z) (hsz : i.size = 1) (hby : i.bytes = bytes) (hzs : z.cells.size = 1)
    (h : w.ownsRow base e 1 (.slice A n c) n xs) (g2 : Nat) (x y : Value) (hx : w.heap[g2]? = some (.cells #[x, y] e (0, 0))) (h1 : ∀ u ∈ [x, y], u.oneCell' = true) (hm : n ≤ 4194304) (hb8 : bytes ≤ 8) :
    ∃ v' w', (Builtin.append_ #[T, T] T #[.slice A n c, .slice (some ⟨g2, 0, none⟩) 2 2]).run Tryd.prog w = .ok v' w' ∧ ((∃ A' c', v' = .slice A' (n + 2) c') ∧ Fr (fun k => ∀ g, A = some ⟨g, 0, none⟩ → k ≠ g) w w' ∧ Wr w' A n e) := by
  have hnews := World.news_of_block hx
  have hbb : (n + 2) * bytes ≤ 140737488355328 := Nat.le_trans (Nat.mul_le_mul_left _ hb8) (by omega)
  have hnone : ∀ w', w.grownBy w' none → Fr (fun _ => True) w w' := fun w' hg => ⟨hg.os, hg.tape, hg.output, hg.size, fun k hk _ => hg.block k hk (by simp)⟩
  have hwr := own_wr h
  have hown := h
  rcases h.2 with ⟨h2, h3⟩ | ⟨g, cap, cur, h2, hbg, hheap, hle, hmx, hcs, htk⟩
  · cases h2
    obtain ⟨v', w', hr, hrow, hg, _⟩ := run_append_own (P := Tryd.prog) w w.heap.size T T e i z 1 bytes ht hi hz hsz hby hzs (by omega) (.slice none 0 0) 0 [] (World.ownsRow_nil w _ e 1) ⟨g2, 0, none⟩ 2 2 [x, y] rfl hnews h1 (by simp only [maxLen]; omega) hbb (Nat.le_refl _)
    obtain ⟨A', c', hv, _⟩ := own_form hrow
    exact ⟨v', w', hr, ⟨A', c', hv⟩, (hnone _ hg).mono (fun _ _ _ => trivial), fun g hg => by cases hg⟩
  · cases h2
    have hcell : ∀ j, j < c → (w.cell? ⟨g, j, none⟩).isSome = true := fun j hj => by
      simp only [World.cell?, hheap]
      simp only [Array.getElem?_eq_getElem (show j < cur.size by omega)]
      rfl
    have hfz : ∀ j, w.frozen? ⟨g, j, none⟩ = false := fun j => by simp [World.frozen?, hheap]
    by_cases hroom : n + 2 ≤ c
    · have hr := run_append_room_cells (P := Tryd.prog) w T T e i ht hi g 0 n c ⟨g2, 0, none⟩ 2 2 [x, y] (by rw [hsz]; rfl) hnews h1 hroom (fun j hj => by rw [hsz]; exact hcell _ (by simp at hj; omega)) (fun j _ => hfz _)
      refine ⟨_, _, hr, ⟨_, _, rfl⟩, ?_, ?_⟩
      · show Fr _ w (((w.setCell ⟨g, _, none⟩ x).setCell ⟨g, _, none⟩ y))
        exact (((Fr.refl _ _).setCell _ _ (fun _ hh => hh g rfl rfl))).setCell _ _ (fun _ hh => hh g rfl rfl)
      · show Wr (((w.setCell ⟨g, _, none⟩ x).setCell ⟨g, _, none⟩ y)) _ _ _
        exact (hwr.set _ _).set _ _
    · obtain ⟨v', w', hr, hrow, hg⟩ := run_append_arg_grows (P := Tryd.prog) w T T e i z 1 bytes ht hi hz hsz hby hzs (by omega) ⟨g, 0, none⟩ n c xs h.1 (fun j u hj => by rw [addr_add, Nat.zero_add]; exact row_cell hown j u hj) ⟨g2, 0, none⟩ 2 2 [x, y] rfl hnews (by omega) (by simp only [maxLen]; omega) hbb
      obtain ⟨A', c', hv, _⟩ := own_form hrow
      exact ⟨v', w', hr, ⟨A', c', hv⟩, (hnone _ hg).mono (fun _ _ _ => trivial), hwr.fr (hnone _ hg) (fun _ _ => trivial)⟩

theorem own_lt {w : World} {b n c : Nat} {e : TypeId} {A : Option Addr} {xs : List Value} (h : w.ownsRow b e 1 (.slice A n c) n xs) : ∀ g, A = some ⟨g, 0, none⟩ → b ≤ g ∧ g < w.heap.size := fun g hg => by
  subst hg
  rcases h.2 with ⟨h1, _⟩ | ⟨g', cap, cur, h1, h2, h3, _⟩
  · cases h1
  · cases h1; exact ⟨h2, (Array.getElem?_eq_some_iff.1 h3).1⟩

/-- What stays through the two loops: the copies; what may be written. -/
structure Ow (w : World) (n m : Nat) (A C : Option Addr) (rl bl : List Int) (Ab : Option Addr) (cb : Nat) (Ad : Option Addr) (cd : Nat) (bb bd : Nat) (W : World) : Prop where
  below : Below w.heap.size w W
  wa : Wr W A n 21
  wc : Wr W C m 3
  rb : W.ownsRow bb 21 1 (.slice Ab n cb) n (rl.map (Value.int .i32))
  rd : W.ownsRow bd 3 1 (.slice Ad m cd) m (nums bl)
theorem Wr.setAny {w : World} {A : Option Addr} {n : Nat} {t : TypeId} (h : Wr w A n t) (g k : Nat) (v : Value) : Wr (w.setCell ⟨g, k, none⟩ v) A n t := fun g' hg => by
  by_cases e : g' = g
  · subst e; subst hg; exact h.set k v g' rfl
  · exact h.fr (S := fun i => i ≠ g) ((Fr.refl _ _).setCell _ _ (fun _ hh => hh rfl)) (fun q hq => by rw [hg] at hq; cases hq; exact e) g' hg
theorem Ow.set {w : World} {n m : Nat} {A C : Option Addr} {rl bl : List Int} {Ab : Option Addr} {cb : Nat} {Ad : Option Addr} {cd : Nat} {bb bd : Nat} {W : World} (h : Ow w n m A C rl bl Ab cb Ad cd bb bd W) (g k : Nat) (v : Value) (h0 : w.heap.size ≤ g) (hb : ∀ g', Ab = some ⟨g', 0, none⟩ → g' ≠ g) (hd : ∀ g', Ad = some ⟨g', 0, none⟩ → g' ≠ g) : Ow w n m A C rl bl Ab cb Ad cd bb bd (W.setCell ⟨g, k, none⟩ v) := by
  have hf : Fr (fun i => i ≠ g) W (W.setCell ⟨g, k, none⟩ v) := (Fr.refl _ _).setCell _ _ (fun _ hh => hh rfl)
  exact ⟨h.below.setCell (p := ⟨g, k, none⟩) h0 _, h.wa.setAny _ _ _, h.wc.setAny _ _ _, own_fr h.rb hf hb, own_fr h.rd hf hd⟩
theorem Ow.to {w : World} {n m : Nat} {A C : Option Addr} {rl bl : List Int} {Ab : Option Addr} {cb : Nat} {Ad : Option Addr} {cd : Nat} {bb bd : Nat} {W W' : World} (h : Ow w n m A C rl bl Ab cb Ad cd bb bd W) (hb : Below W.heap.size W W') : Ow w n m A C rl bl Ab cb Ad cd bb bd W' :=
  ⟨bst h.below hb, h.wa.fr (Fr.of_below (S := fun k => k < W.heap.size) hb (fun _ _ h => h)) (fun g hg => by obtain ⟨cur, h1, _⟩ := h.wa g hg; exact (Array.getElem?_eq_some_iff.1 h1).1),
    h.wc.fr (Fr.of_below (S := fun k => k < W.heap.size) hb (fun _ _ h => h)) (fun g hg => by obtain ⟨cur, h1, _⟩ := h.wc g hg; exact (Array.getElem?_eq_some_iff.1 h1).1), own_below h.rb hb, own_below h.rd hb⟩

theorem feed_is (p : Nat) (xv : Value) (l b al D : List UInt8) (R : ByteArray) (w : World) (hp : 2 ≤ p) (hP : Pc w p l) (hX : Bsl w xv b) (T : Tabs w) (hs : l.length + b.length ≤ 4194304) (hal : l ++ b = al)
    (hR : (⟨(al.take (al.length - hold al)).toArray⟩ : ByteArray) = R) (hD : al.drop (al.length - hold al) = D) :
    Calls Tryd.prog 7 #[.pointer (some ⟨p, 0, none⟩), xv] w fun e w' => e = .returned (.string R) ∧ Fr (fun k => k ≠ p) w w' ∧ Pc w' p D := by
  subst hal hR hD
  exact feedU_any p xv l b w hp hP hX T hs
theorem newPc_any (w : World) : Calls Tryd.prog 6 #[] w fun e w' => e = .returned (.pointer (some ⟨w.heap.size, 0, none⟩)) ∧ Below w.heap.size w w' ∧ Pc w' w.heap.size [] ∧ w.heap.size < w'.heap.size :=
  (newPieces_any w).mono fun e w' ⟨h1, h2⟩ => by
    subst h2
    exact ⟨h1, (Below.refl _ _).alloc (Nat.le_refl _) _, newPieces_pc w, by simp⟩
theorem bsl_new (w : World) (l : List UInt8) (fr : Nat × Nat) : Bsl (w.alloc (.cells (bcs l).toArray 5 fr)) (.slice (some ⟨w.heap.size, 0, none⟩) l.length l.length) l :=
  .inr ⟨w.heap.size, 0, _, rfl, Nat.le_refl _, fun j b hj => by
    have := World.alloc_heap_new w (.cells (bcs l).toArray 5 fr)
    rw [Nat.zero_add]
    simp only [World.cell?, this]
    have hb : (bcs l).toArray[j]? = some (.int .u8 (b.toNat : Int)) := by simp [bcs, hj]
    simp [hb]⟩

set_option maxRecDepth 1000000 in
set_option maxHeartbeats 8000000 in
theorem utfOwn_law (s t : ByteArray) (hs : s.size + t.size ≤ 1048576) (w : World) (T : Tabs w) : Calls Tryd.prog 5 #[.string s, .string t] w fun e w' => e = .returned (.bool true) ∧ Below w.heap.size w w' := by
  have hs' : s.size ≤ 4194304 := by omega
  have hrl : (runesL s.data.toList).length ≤ 4194304 := by rw [runesL_len]; have := toks_len (s := s); omega
  have hbl : (badsL (U.signs s.data.toList)).length ≤ 4194304 := by have := badsL_len (U.signs s.data.toList); have := signs_len_le s; omega
  have RU := Lib.hid (fun w => runes_own s w hs')
  have BU := Lib.hid (fun w => badsU_any s w hs')
  have IN := Lib.hid (fun g cap w h => ints_any g cap (runesL s.data.toList) w hrl (runesL_range _) h (some ⟨g, 0, none⟩) (fun _ => rfl))
  have S1 := Lib.hid (fun v r b1 b2 w h1 h2 => same_any v r (runesL s.data.toList) b1 b2 w hrl h1 h2)
  have S2 := Lib.hid (fun v r b1 b2 w h1 h2 => same_any v r (badsL (U.signs s.data.toList)) b1 b2 w hbl h1 h2)
  obtain ⟨i3, hi3, hz30, hz31, hz32⟩ := info_parts Tryd.infoI32
  obtain ⟨i6, hi6, hz60, hz61, hz62⟩ := info_parts Tryd.infoI64
  obtain ⟨l, hl⟩ : ∃ l, runesL s.data.toList = l := ⟨_, rfl⟩
  obtain ⟨b, hbb⟩ : ∃ l, badsL (U.signs s.data.toList) = l := ⟨_, rfl⟩
  rw [hl] at RU IN S1 hrl
  rw [hbb] at BU S2 hbl
  clear hl hbb
  go_enter Tryd.func5, Tryd.ntmps5
  have RU1 := Lib.hid (RU.out w)
  obtain ⟨V, hV1⟩ := Classical.skolem.1 (bytes_conv t)
  obtain ⟨NX, hV2⟩ := Classical.skolem.1 hV1
  have hcv := fun W => (hV2 W).1
  have HB := Lib.hid (fun W => (hV2 W).2.1)
  have HX := Lib.hid (fun W => (hV2 W).2.2)
  have htl : t.data.toList.length ≤ 4194304 := by rw [← U.size_eq]; omega
  obtain ⟨tb, htb⟩ : ∃ l, t.data.toList = l := ⟨_, rfl⟩
  rw [htb] at HX htl
  obtain ⟨R, hR⟩ : ∃ R, (⟨(tb.take (tb.length - hold tb)).toArray⟩ : ByteArray) = R := ⟨_, rfl⟩
  obtain ⟨D, hD⟩ : ∃ D, tb.drop (tb.length - hold tb) = D := ⟨_, rfl⟩
  obtain ⟨DS, hDS⟩ : ∃ S, (⟨D.toArray⟩ : ByteArray) = S := ⟨_, rfl⟩
  have HR := Lib.hid hR
  have HD := Lib.hid hD
  have HDS := Lib.hid hDS
  clear hV1 hV2 htb hR hD hDS
  go_wp2_with (first
    | (go_at_call 17; (with_reducible refine RU1.out.mono ?_); rintro e w1 ⟨cp1, rfl, hb1, hr1⟩)
    | (go_at_call 17; (with_reducible refine (RU.out w1).mono ?_); rintro e w2 ⟨cp2, rfl, hb2, hr2⟩)
    | (go_at_call 18; (with_reducible refine (BU.out w2).mono ?_); rintro e w3 ⟨v3, rfl, hb3, hr3⟩; obtain ⟨A3, cp3, rfl, hA3⟩ := own_form hr3)
    | (go_at_call 18; (with_reducible refine (BU.out w3).mono ?_); rintro e w4 ⟨v4, rfl, hb4, hr4⟩; obtain ⟨A4, cp4, rfl, hA4⟩ := own_form hr4; have AP5 := Lib.hid (app_own i3 _ 4 Tryd.underlying44 hi3 hz30 hz31 hz32 rfl ((own_below hr1 (bst (bst hb2 hb3) hb4)).alloc (.cells #[.int .i32 1, .int .i32 2] 21)) w4.heap.size (.int .i32 1) (.int .i32 2) (World.alloc_heap_new w4 _) (by simp [Value.oneCell']) hrl (by omega)))
    | (at_builtin; refine wpList_append_any rfl _ _ 44 rfl _ _ rfl rfl AP5.out ?_; rintro v5 w5 ⟨⟨A5, c5, rfl⟩, hf5, hwa5⟩; have AP6 := Lib.hid (app_own i6 _ 8 Tryd.underlying23 hi6 hz60 hz61 hz62 rfl ((own_fr ((own_below hr3 hb4).alloc (.cells #[.int .i32 1, .int .i32 2] 21)) hf5 (fun g hg g' hg' e => by cases hg'; have h1 := (own_lt hr3 g hg).1; have h2 := hb1.size; have h3 := hb2.size; have h4 := (own_lt hr1 _ rfl).2; omega)).alloc (.cells #[.int .i64 1, .int .i64 2] 3)) w5.heap.size (.int .i64 1) (.int .i64 2) (World.alloc_heap_new w5 _) (by simp [Value.oneCell']) hbl (by omega)))
    | (at_builtin; refine wpList_append_any rfl _ _ 23 rfl _ _ rfl rfl AP6.out ?_; rintro v6 w6 ⟨⟨A6, c6, rfl⟩, hf6, hwc6⟩))
  have OW : (∀ g', some (⟨w1.heap.size, 0, none⟩ : Addr) = some ⟨g', 0, none⟩ → g' ≠ w.heap.size) ∧ (∀ g', A4 = some ⟨g', 0, none⟩ → g' ≠ w.heap.size) ∧ (∀ g, A3 = some ⟨g, 0, none⟩ → w.heap.size ≤ g ∧ (∀ g', some (⟨w1.heap.size, 0, none⟩ : Addr) = some ⟨g', 0, none⟩ → g' ≠ g) ∧ (∀ g', A4 = some ⟨g', 0, none⟩ → g' ≠ g)) ∧
      Ow w l.length b.length (some ⟨w.heap.size, 0, none⟩) A3 l b (some ⟨w1.heap.size, 0, none⟩) cp2 A4 cp4 w1.heap.size w3.heap.size w6 := by
    have o1 := (own_lt hr1 _ rfl).2
    have o2 := (own_lt hr2 _ rfl).2
    have o3 := own_lt hr3
    have o4 := own_lt hr4
    have s3 := hb3.size
    have s4 := hb4.size
    have FA : Fr (fun k => k ≠ w.heap.size ∧ ∀ g, A3 = some ⟨g, 0, none⟩ → k ≠ g) w4 w6 := ((((Fr.refl _ w4).alloc _).trans (hf5.mono (fun k _ h g hg => by cases hg; exact h.1))).alloc _).trans (hf6.mono (fun k _ h g hg => h.2 g hg))
    refine ⟨fun g' h => by cases h; omega, fun g' h => by have := (o4 g' h).1; omega, fun g hg => ⟨by have := (o3 g hg).1; omega, fun g' h => by cases h; have := (o3 g hg).1; omega, fun g' h => by have := (o4 g' h).1; have := (o3 g hg).2; omega⟩, ?_⟩
    refine ⟨(bst (bst (bst hb1 hb2) hb3) hb4).trans (FA.toBelow (fun k hk => ⟨by omega, fun g hg => by have := (o3 g hg).1; omega⟩) (by omega)), ?_, hwc6, ?_, ?_⟩
    · refine (hwa5.fr ((Fr.refl (fun _ => True) _).alloc _) (fun _ _ => trivial)).fr hf6 (fun g hg g' hg' => ?_)
      cases hg
      have := (o3 g' hg').1
      omega
    · refine own_fr (own_below hr2 (bst hb3 hb4)) FA (fun g hg => ?_)
      cases hg
      exact ⟨by omega, fun g' hg' => by have := (o3 g' hg').1; omega⟩
    · refine own_fr hr4 FA (fun g hg => ?_)
      have := (o4 g hg).1
      exact ⟨by omega, fun g' hg' => by have := (o3 g' hg').2; omega⟩
  obtain ⟨nb1, nd1, NC, OW⟩ := OW
  have NC := Lib.hid NC
  clear hf5 hf6 hwa5 hwc6 hr1 hr2 hr3 hr4 hb1 hb2 hb3 hb4
  go_loopw [11] (fun i wr => ∃ k : Nat, i = .int .i64 (k : Int) ∧ k ≤ l.length ∧ Ow w l.length b.length (some ⟨w.heap.size, 0, none⟩) A3 l b (some ⟨w1.heap.size, 0, none⟩) cp2 A4 cp4 w1.heap.size w3.heap.size wr) (fun i _ => l.length - (intOf i).toNat)
  case atStart => exact ⟨0, rfl, Nat.zero_le _, OW⟩
  case round =>
    obtain ⟨k, rfl, hk, hO⟩ := hrel
    by_cases hlt : k < l.length
    · obtain ⟨⟨v0, c0⟩, f0⟩ := hO.wa.at hlt
      have HO := Lib.hid hO
      clear hO OW
      go_wp2
      go_roundw
      case rel => exact ⟨k + 1, by go_num, hlt, HO.out.set _ _ _ (Nat.le_refl _) nb1 nd1⟩
      case measure => simp [intOf]; omega
    · obtain rfl : k = l.length := by omega
      clear OW
      have HO := Lib.hid hO
      clear hO
      go_wp2
      go_loopw [12] (fun i wr => ∃ k : Nat, i = .int .i64 (k : Int) ∧ k ≤ b.length ∧ Ow w l.length b.length (some ⟨w.heap.size, 0, none⟩) A3 l b (some ⟨w1.heap.size, 0, none⟩) cp2 A4 cp4 w1.heap.size w3.heap.size wr) (fun i _ => b.length - (intOf i).toNat)
      case atStart => exact ⟨0, rfl, Nat.zero_le _, HO.out⟩
      case round =>
        clear HO
        obtain ⟨k, rfl, hk, hO⟩ := hrel
        by_cases hlt : k < b.length
        · obtain ⟨gc, rfl⟩ := hA3 (by omega)
          obtain ⟨n0, n1, n2⟩ := NC.out gc rfl
          obtain ⟨⟨v0, c0⟩, f0⟩ := hO.wc.at hlt
          have HO := Lib.hid hO
          clear hO
          go_wp2
          go_roundw
          case rel => exact ⟨k + 1, by go_num, hlt, HO.out.set _ _ _ n0 n1 n2⟩
          case measure => simp [intOf]; omega
        · obtain rfl : k = b.length := by omega
          obtain ⟨W7, hW7⟩ : ∃ W, wr = W := ⟨_, rfl⟩
          subst hW7
          have HO := Lib.hid hO
          clear hO
          go_wp2_with (first
            | (go_at_call 17; (with_reducible refine (RU.out _).mono ?_); rintro e w10 ⟨cp10, rfl, hb10, hr10⟩)
            | (go_at_call 20; (with_reducible refine (IN.out _ _ _ (runesAt_own rfl hr10)).mono ?_); rintro e w11 ⟨v11, rfl, hb11, hr11⟩)
            | (go_at_call 20; (with_reducible refine (IN.out _ _ _ (runesAt_own rfl (HO.out.to (bst hb10 hb11)).rb)).mono ?_); rintro e w12 ⟨v12, rfl, hb12, hr12⟩)
            | (go_at_call 19; (with_reducible refine (S1.out _ _ _ _ _ (own_below hr11 hb12) hr12).mono ?_); rintro e w13 ⟨rfl, hb13⟩)
            | (go_at_call 18; (with_reducible refine (BU.out _).mono ?_); rintro e w14 ⟨v14, rfl, hb14, hr14⟩)
            | (go_at_call 19; (with_reducible refine (S2.out _ _ _ _ _ hr14 (HO.out.to (bst (bst (bst (bst hb10 hb11) hb12) hb13) hb14)).rd).mono ?_); rintro e w15 ⟨rfl, hb15⟩; have hB15 := (HO.out.to (bst (bst (bst (bst (bst hb10 hb11) hb12) hb13) hb14) hb15)).below; have T15 := T.below hB15 T.size; have s15 := hB15.size; have s0 := T.size)
            | (go_at_call 6; (with_reducible refine (newPc_any w15).mono ?_); rintro e w16 ⟨rfl, hb16, hx16, hs16⟩)
            | (go_at_call 6; (with_reducible refine (newPc_any w16).mono ?_); rintro e w17 ⟨rfl, hb17, hy17, hs17⟩; have T17 := Lib.hid ((T15.below hb16 (by omega)).below hb17 (by omega)); have hx17 := Lib.hid (hx16.below hb17); have hz17 : Hid (Below w17.heap.size w17 (w17.alloc (.cells #[.int .u8 226, .int .u8 130] 5 (2, 3)))) := Lib.hid ((Below.refl _ _).alloc (Nat.le_refl _) _); have cc1 : (convert 27 27 (.slice (some ⟨w17.heap.size, 0, none⟩) 2 2)).run Tryd.prog (w17.alloc (.cells #[.int .u8 226, .int .u8 130] 5)) = .ok (.slice (some ⟨w17.heap.size, 0, none⟩) 2 2) (w17.alloc (.cells #[.int .u8 226, .int .u8 130] 5 (2, 3))) := Lib.run_convert_bytes_const w17 27 5 #[.int .u8 226, .int .u8 130] 2 2 Tryd.underlying27 Tryd.underlying5; have F1 := Lib.hid (feed_is w15.heap.size (.slice (some ⟨w17.heap.size, 0, none⟩) 2 2) [] [226, 130] [226, 130] [226, 130] ⟨#[]⟩ (w17.alloc (.cells #[.int .u8 226, .int .u8 130] 5 (2, 3))) (by omega) (hx17.out.below hz17.out) (bsl_new w17 [226, 130] (2, 3)) (T17.out.below hz17.out (by omega)) (by simp) rfl (by decide +kernel) (by decide +kernel)))
            | (go_at_call 7; (with_reducible refine F1.out.mono ?_); rintro e w18 ⟨rfl, hf18, hx18⟩; have s18 := hf18.size; have s18' := hz17.out.size; have hy18 := Lib.hid ((hy17.below hz17.out).other hf18 (by omega) (hx17.out.below hz17.out)); have T18 := Lib.hid ((T17.out.below hz17.out (by omega)).to hf18 (by omega) (by omega)); have F2 := Lib.hid (feed_is w16.heap.size (V w18) [] tb tb D R (NX w18) (by omega) (hy18.out.below (HB.out w18)) (HX.out w18) (T18.out.below (HB.out w18) (by omega)) (by simp; omega) rfl HR.out HD.out))
            | (go_at_call 7; (with_reducible refine F2.out.mono ?_); rintro e w20 ⟨rfl, hf20, hy20⟩; have s20 := hf20.size; have s20' := (HB.out w18).size; have hx20 := Lib.hid ((hx18.below (HB.out w18)).other hf20 (by omega) (hy18.out.below (HB.out w18))); have T20 := Lib.hid ((T18.out.below (HB.out w18) (by omega)).to hf20 (by omega) (by omega)))
            | (go_at_call 6; (with_reducible refine (newPc_any w20).mono ?_); rintro e w21 ⟨rfl, hb21, hq21, hs21⟩; have T21 := Lib.hid (T20.out.below hb21 (by omega)); have hx21 := Lib.hid (hx20.out.below hb21); have hy21 := Lib.hid (hy20.below hb21); have F3 := Lib.hid (feed_is w20.heap.size (V w21) [] tb tb D R (NX w21) (by omega) (hq21.below (HB.out w21)) (HX.out w21) (T21.out.below (HB.out w21) (by omega)) (by simp; omega) rfl HR.out HD.out))
            | (go_at_call 7; (with_reducible refine F3.out.mono ?_); rintro e w22 ⟨rfl, hf22, hq22⟩; have s22 := hf22.size; have s22' := (HB.out w21).size; have hx22 := Lib.hid ((hx21.out.below (HB.out w21)).other hf22 (by omega) (hq21.below (HB.out w21))); have hy22 := Lib.hid ((hy21.out.below (HB.out w21)).other hf22 (by omega) (hq21.below (HB.out w21))); have T22 := Lib.hid ((T21.out.below (HB.out w21) (by omega)).to hf22 (by omega) (by omega)); have E1 := Lib.hid (HDS.out ▸ endU_any w20.heap.size D w22 hq22 : Calls Tryd.prog 10 #[.pointer (some ⟨w20.heap.size, 0, none⟩)] w22 fun e w' => e = .returned (.string DS) ∧ Fr (fun k => k ≠ w20.heap.size) w22 w' ∧ Pc w' w20.heap.size []))
            | (go_at_call 10; (with_reducible refine E1.out.mono ?_); rintro e w23 ⟨rfl, hf23, hq23⟩; have s23 := hf23.size; have hx23 := Lib.hid (hx22.out.other hf23 (by omega) hq22); have hy23 := Lib.hid (hy22.out.other hf23 (by omega) hq22); have T23 := Lib.hid (T22.out.to hf23 (by omega) (by omega)); have E2 := Lib.hid (HDS.out ▸ endU_any w16.heap.size D w23 hy23.out : Calls Tryd.prog 10 #[.pointer (some ⟨w16.heap.size, 0, none⟩)] w23 fun e w' => e = .returned (.string DS) ∧ Fr (fun k => k ≠ w16.heap.size) w23 w' ∧ Pc w' w16.heap.size []))
            | (go_at_call 10; (with_reducible refine E2.out.mono ?_); rintro e w24 ⟨rfl, hf24, hy24⟩; have s24 := hf24.size; have hx24 := Lib.hid (hx23.out.other hf24 (by omega) hy23.out); have T24 := Lib.hid (T23.out.to hf24 (by omega) (by omega)); have H1 := Lib.hid (heldU_any w15.heap.size [226, 130] w24 hx24.out); have hz24 : Hid (Below w24.heap.size w24 (w24.alloc (.cells #[.int .u8 172] 5 (1, 2)))) := Lib.hid ((Below.refl _ _).alloc (Nat.le_refl _) _); have cc4 : (convert 27 27 (.slice (some ⟨w24.heap.size, 0, none⟩) 1 1)).run Tryd.prog (w24.alloc (.cells #[.int .u8 172] 5)) = .ok (.slice (some ⟨w24.heap.size, 0, none⟩) 1 1) (w24.alloc (.cells #[.int .u8 172] 5 (1, 2))) := Lib.run_convert_bytes_const w24 27 5 #[.int .u8 172] 1 1 Tryd.underlying27 Tryd.underlying5; have F4 := Lib.hid (feed_is w15.heap.size (.slice (some ⟨w24.heap.size, 0, none⟩) 1 1) [226, 130] [172] [226, 130, 172] [] ⟨#[226, 130, 172]⟩ (w24.alloc (.cells #[.int .u8 172] 5 (1, 2))) (by omega) (hx24.out.below hz24.out) (bsl_new w24 [172] (1, 2)) (T24.out.below hz24.out (by omega)) (by simp) rfl (by decide +kernel) (by decide +kernel)))
            | (go_at_call 9; (with_reducible refine H1.out.mono ?_); rintro e w24' ⟨rfl, rfl⟩)
            | (go_at_call 7; (with_reducible refine F4.out.mono ?_); rintro e w25 ⟨rfl, hf25, hx25⟩; have s25 := hf25.size; have s25' := hz24.out.size)
            | (go_at_call 12; refine (head_any _).mono ?_; rintro e w26 ⟨rfl, hb26⟩))
          go_ret
          have st : ∀ {A B : World} {p : Nat}, Fr (fun k => k ≠ p) A B → w.heap.size ≤ p → w.heap.size ≤ A.heap.size → Below w.heap.size A B := fun h hp hs => h.toBelow (fun k hk => by omega) hs
          refine ⟨rfl, ?_⟩
          have k17 := (hB15.trans (hb16.mono (by omega))).trans (hb17.mono (by omega))
          have k18 := (k17.trans (hz17.out.mono (by omega))).trans (st hf18 (by omega) (by omega))
          have k20 := (k18.trans ((HB.out w18).mono (by omega))).trans (st hf20 (by omega) (by omega))
          have k21 := k20.trans (hb21.mono (by omega))
          have k22 := (k21.trans ((HB.out w21).mono (by omega))).trans (st hf22 (by omega) (by omega))
          have k24 := (k22.trans (st hf23 (by omega) (by omega))).trans (st hf24 (by omega) (by omega))
          have k25 := (k24.trans (hz24.out.mono (by omega))).trans (st hf25 (by omega) (by omega))
          exact k25.trans (hb26.mono (by omega))
end Go.Proofs.YtokbmihjpllgpaaDoor
