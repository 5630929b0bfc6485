/- Pieces: Feed, End, Held of the program. -/
import Derived.Test.YtokbmihjpllgpaaDoorByt
set_option linter.unusedVariables false
set_option linter.unusedSimpArgs false
namespace Go.Proofs.YtokbmihjpllgpaaDoor
open Go.RowKit Go.Shelf Go.Lib Go.BigFrame
attribute [local go_sem] Oper.semAt_some

/-- How many of the last bytes are held back. -/
def hold (a : List UInt8) : Nat := if 3 ≤ a.length ∧ frB (a.drop (a.length - 3)) = true then 3 else if 2 ≤ a.length ∧ frB (a.drop (a.length - 2)) = true then 2 else if 1 ≤ a.length ∧ frB (a.drop (a.length - 1)) = true then 1 else 0
/-- A program's Pieces: what the box holds. -/
def Pc (w : World) (p : Nat) (l : List UInt8) : Prop := ∃ hv, w.heap[p]? = some (.cells #[hv] 51 (0, 0)) ∧ Bsl w hv l
/-- The same, and what is held lies from a block on. -/
def Pcn (w : World) (p : Nat) (l : List UInt8) (lo : Nat) : Prop := ∃ hv, w.heap[p]? = some (.cells #[hv] 51 (0, 0)) ∧ Bsl w hv l ∧ ∀ q, hv.ownBlock = some q → lo ≤ q
theorem Pcn.pc {w : World} {p : Nat} {l : List UInt8} {lo : Nat} (h : Pcn w p l lo) : Pc w p l := by obtain ⟨hv, h1, h2, _⟩ := h; exact ⟨hv, h1, h2⟩
theorem Bsl.form {w : World} {v : Value} {l : List UInt8} (h : Bsl w v l) : ∃ ao c, v = .slice ao l.length c ∧ l.length ≤ c ∧ Bsl w (.slice ao l.length l.length) l := by
  rcases h with ⟨rfl, rfl⟩ | ⟨g, o, c, rfl, hle, hB⟩
  · exact ⟨none, 0, rfl, Nat.le_refl _, .inl ⟨rfl, rfl⟩⟩
  · exact ⟨_, c, rfl, hle, .inr ⟨g, o, _, rfl, Nat.le_refl _, hB⟩⟩
theorem Bsl.fr {S : Nat → Prop} {w w' : World} {v : Value} {l : List UInt8} (h : Bsl w v l) (hf : Fr S w w') (hS : ∀ k, k < w.heap.size → S k) : Bsl w' v l := by
  rcases h with h | ⟨g, o, c, rfl, hle, hB⟩
  · exact .inl h
  · exact .inr ⟨g, o, c, rfl, hle, hB.fr hf (fun hl => hS _ (hB.lt hl))⟩
theorem Bsl.below {w w' : World} {v : Value} {l : List UInt8} (h : Bsl w v l) (hb : Below w.heap.size w w') : Bsl w' v l := h.fr (Fr.of_below (S := fun k => k < w.heap.size) hb (fun k _ h => h)) (fun k h => h)

theorem Bsx.fr {S : Nat → Prop} {w w' : World} {v : Value} {l : List UInt8} (h : Bsx w v l) (hf : Fr S w w') (hS : ∀ k, k < w.heap.size → S k) : Bsx w' v l := h.imp (fun h => h.fr hf hS) id
theorem Bsx.below {w w' : World} {v : Value} {l : List UInt8} (h : Bsx w v l) (hb : Below w.heap.size w w') : Bsx w' v l := h.imp (fun h => h.below hb) id
theorem Bsx.form {w : World} {v : Value} {l : List UInt8} (h : Bsx w v l) : ∃ ao c, v = .slice ao l.length c ∧ l.length ≤ c := by
  rcases h with h | ⟨rfl, ao, c, rfl⟩
  · obtain ⟨ao, c, h1, h2, _⟩ := h.form; exact ⟨ao, c, h1, h2⟩
  · exact ⟨ao, c, rfl, Nat.zero_le _⟩
theorem conv_bsl {w : World} {v : Value} {l : List UInt8} (h : Bsl w v l) : (convert 27 9 v).run Tryd.prog w = .ok (.string ⟨l.toArray⟩) w := by
  rcases h with ⟨rfl, rfl⟩ | ⟨g, o, c, rfl, hle, hB⟩
  · exact run_convert_bytes_nil w 27 5 Tryd.underlying27 Tryd.underlying5 0 0 9 Tryd.underlying9
  · refine run_convert_bytes_back w 27 9 5 ⟨g, o, none⟩ c l Tryd.underlying27 Tryd.underlying5 Tryd.underlying9 (fun j hj => ?_)
    rw [addr_add]
    exact hB j _ (by simp [hj])
theorem conv_bsx {w : World} {v : Value} {l : List UInt8} (h : Bsx w v l) : (convert 27 9 v).run Tryd.prog w = .ok (.string ⟨l.toArray⟩) w := by
  rcases h with h | ⟨rfl, ao, c, rfl⟩
  · exact conv_bsl h
  · cases ao with
    | none => exact run_convert_bytes_nil w 27 5 Tryd.underlying27 Tryd.underlying5 0 c 9 Tryd.underlying9
    | some a => exact run_convert_bytes_back w 27 9 5 a c [] Tryd.underlying27 Tryd.underlying5 Tryd.underlying9 (fun j hj => absurd hj (by simp))
/-- A row of bytes does not lie in a box of a slice. -/
theorem byAt_ne {w : World} {g o p : Nat} {l : List UInt8} {ao : Option Addr} {n c : Nat} {t r} (h : ByAt w g o l) (hl : 0 < l.length) (hb : w.heap[p]? = some (.cells #[.slice ao n c] t r)) : g ≠ p := by
  rintro rfl
  have h0 := h 0 l[0] (by simp [hl])
  rw [Nat.add_zero] at h0
  simp only [World.cell?, hb] at h0
  cases o with
  | zero => simp at h0
  | succ o => simp at h0
theorem Bsl.slice {w : World} {g o c : Nat} {l : List UInt8} (hle : l.length ≤ c) (h : ByAt w g o l) (k d : Nat) (hk : k ≤ l.length) (hd : k ≤ d) : Bsl w (.slice (some ⟨g, o, none⟩) k d) (l.take k) :=
  .inr ⟨g, o, d, by rw [List.length_take, Nat.min_eq_left hk], by rw [List.length_take, Nat.min_eq_left hk]; exact hd, h.take k⟩
theorem Bsl.setBox {w : World} {v u : Value} {l : List UInt8} {p : Nat} {ao : Option Addr} {n c : Nat} {t r} (h : Bsl w v l) (hb : w.heap[p]? = some (.cells #[.slice ao n c] t r)) : Bsl (w.setCell ⟨p, 0, none⟩ u) v l := by
  rcases h with h | ⟨g, o, d, rfl, hle, hB⟩
  · exact .inl h
  · refine .inr ⟨g, o, d, rfl, hle, fun j b hj => ?_⟩
    have hne := byAt_ne hB (by have := (List.getElem?_eq_some_iff.1 hj).1; omega) hb
    exact (World.cell?_of_block (Below.heap_setCell _ _ _ _ (by simpa using hne))).trans (hB j b hj)
theorem hold_eq {a : List UInt8} {k : Nat} (h3 : k ≤ 3) (hk : k ≤ a.length) (hno : ∀ j, k < j → j ≤ 3 → j ≤ a.length → frB (a.drop (a.length - j)) = false) (hyes : k = 0 ∨ frB (a.drop (a.length - k)) = true) : hold a = k := by
  unfold hold
  split
  · rename_i h
    rcases Nat.lt_or_ge k 3 with hlt | hge
    · have := hno 3 hlt (Nat.le_refl _) h.1; simp [this] at h
    · omega
  · rename_i h0
    split
    · rename_i h
      rcases Nat.lt_or_ge k 2 with hlt | hge
      · have := hno 2 hlt (by omega) h.1; simp [this] at h
      · have : k = 2 ∨ k = 3 := by omega
        rcases this with rfl | rfl
        · rfl
        · rcases hyes with hy | hy
          · omega
          · exact absurd ⟨hk, hy⟩ h0
    · rename_i h1
      split
      · rename_i h
        rcases Nat.lt_or_ge k 1 with hlt | hge
        · have := hno 1 hlt (by omega) h.1; simp [this] at h
        · have : k = 1 ∨ k = 2 ∨ k = 3 := by omega
          rcases this with rfl | rfl | rfl
          · rfl
          · rcases hyes with hy | hy
            · omega
            · exact absurd ⟨hk, hy⟩ h1
          · rcases hyes with hy | hy
            · omega
            · exact absurd ⟨hk, hy⟩ h0
      · rename_i h2
        have : k = 0 ∨ k = 1 ∨ k = 2 ∨ k = 3 := by omega
        rcases this with rfl | rfl | rfl | rfl
        · rfl
        · rcases hyes with hy | hy
          · omega
          · exact absurd ⟨hk, hy⟩ h2
        · rcases hyes with hy | hy
          · omega
          · exact absurd ⟨hk, hy⟩ h1
        · rcases hyes with hy | hy
          · omega
          · exact absurd ⟨hk, hy⟩ h0

set_option maxRecDepth 1000000 in
set_option maxHeartbeats 8000000 in
theorem feedU_frx (p : Nat) (xv : Value) (l b : List UInt8) (w : World) (hp : 2 ≤ p) (hP : Pc w p l) (hX : Bsx w xv b) (T : Tabs w) (hs : l.length + b.length ≤ 4194304) :
    Calls Tryd.prog 7 #[.pointer (some ⟨p, 0, none⟩), xv] w fun e w' => e = .returned (.string ⟨((l ++ b).take ((l ++ b).length - hold (l ++ b))).toArray⟩) ∧ Fr (fun k => k ≠ p) w w' ∧ Pcn w' p ((l ++ b).drop ((l ++ b).length - hold (l ++ b))) w.heap.size := by
  obtain ⟨hv, hbox, hH⟩ := hP
  obtain ⟨ao, c, rfl, hlc, hHn⟩ := hH.form
  have hpl := (Array.getElem?_eq_some_iff.1 hbox).1
  have APP : Hid (∀ W, (W.cell? ⟨p, 0, none⟩ = some (.slice ao l.length c) ∧ Below w.heap.size w W) → ∃ v' w', (Builtin.append_ #[27, 27] 27 #[.slice ao l.length l.length, xv]).run Tryd.prog W = .ok v' w' ∧ (Below w.heap.size w w' ∧ Bsl w' v' (l ++ b))) := Lib.hid (fun W h => by
    obtain ⟨v', w', h1, h2, h3⟩ := app_bytes W ao l.length l b xv rfl (hHn.below h.2) (hX.below h.2) (by omega)
    exact ⟨v', w', h1, h.2.trans (h2.mono h.2.size), h3⟩)
  obtain ⟨n, hn⟩ : ∃ n, l.length = n := ⟨_, rfl⟩
  obtain ⟨al, hal⟩ : ∃ a, l ++ b = a := ⟨_, rfl⟩
  rw [hn] at APP hlc hbox
  rw [hal] at APP ⊢
  have hcl := cell_of_block hbox
  have cp := hcl.1
  have KB : ∀ W, Below w.heap.size w W → W.cell? ⟨p, 0, none⟩ = some (.slice ao n c) := fun W h => (World.cell?_of_block (h.block _ hpl)).trans cp
  have KB := Lib.hid KB
  clear hH hHn hX hcl
  go_enter Tryd.func7, Tryd.ntmps7
  go_wp2
  go_region_held3 (fun w' => w'.cell? ⟨p, 0, none⟩ = some (.slice ao n c) ∧ Below w.heap.size w w') (first | (exact ⟨cp, Below.refl _ _⟩) | (refine ⟨KB.out _ ?_, ?_⟩ <;> first | assumption | (refine Below.drew ?_; first | assumption | exact Below.refl _ _ | exact And.right (by assumption))))
    ((refine step_append_any (R := fun v' w' => Below w.heap.size w w' ∧ Bsl w' v' al) (by rfl) _ _ _ (by rfl) _ _ (by rfl) (by rfl) (APP.out _ (by assumption)) ?_; rintro v1 w1 ⟨hb1, hB1⟩))
  have hb1p : w1.heap[p]? = some (.cells #[.slice ao n c] 51 (0, 0)) := (hb1.block _ hpl).trans hbox
  obtain ⟨A1, C1, hv1, hC1, hBn⟩ := hB1.form
  subst hv1
  have hsm : al.length ≤ 4194304 := by rw [← hal, List.length_append]; omega
  have T1 : Tabs w1 := T.below hb1 (by omega)
  have hw1 := hb1.size
  obtain ⟨L, hL⟩ : ∃ L, al.length = L := ⟨_, rfl⟩
  rw [hL] at hC1 hsm ⊢
  have hBv : Bsl w1 (.slice A1 L C1) al := hL ▸ hB1
  have hFr : Fr (fun k => k ≠ p) w w1 := Fr.of_below hb1 (fun k hk _ => hk)
  clear hB1 hBn APP KB
  have hp1 : p < w1.heap.size := by omega
  clear hb1 hbox cp hw1
  go_wp2
  all_goals (
  go_loopw [6, 7] (fun n at_ wr => ∃ k : Nat, n = .int .i64 (k : Int) ∧ k ≤ 3 ∧ k ≤ L ∧ (∀ j, k < j → j ≤ 3 → j ≤ L → frB (al.drop (L - j)) = false) ∧ Below w1.heap.size w1 wr) (fun n _ _ => (intOf n).toNat)
  case atStart => first | exact ⟨3, rfl, by omega, by omega, fun j _ _ _ => by exfalso; omega, Below.refl _ _⟩ | exact ⟨L, rfl, by omega, by omega, fun j _ _ _ => by exfalso; omega, Below.refl _ _⟩
  case round =>
    obtain ⟨k, rfl, hk3, hkL, hno, hB⟩ := hrel
    have hpr : wr.heap[p]? = some (.cells #[.slice ao n c] 51 (0, 0)) := (hB.block _ hp1).trans hb1p
    have cpr := (cell_of_block hpr).1
    have fpr := (cell_of_block hpr).2
    have hBr := hBv.below hB
    have hF : Fr (fun k => k ≠ p) w wr := hFr.below hB (fun k hk _ => by have := hFr.size; omega)
    by_cases hk : k = 0
    · subst hk
      have hh : hold al = 0 := hold_eq (by omega) (by omega) (fun j h1 h2 h3 => by rw [hL]; exact hno j h1 h2 (by omega)) (.inl rfl)
      have cv := conv_bsl (hBr.setBox hpr (u := .slice none 0 0))
      have HF := Lib.hid (And.intro hF hpr)
      have HH := Lib.hid hh
      obtain ⟨R, hR⟩ : ∃ R, (⟨al.toArray⟩ : ByteArray) = R := ⟨_, rfl⟩
      rw [hR] at cv
      have HR := Lib.hid hR
      clear hF hpr hBr hB hno hh hBv hR
      go_wp2
      go_ret
      obtain ⟨q1, q2⟩ := HF.out
      rw [HH.out, Nat.sub_zero, List.take_of_length_le (by omega), List.drop_of_length_le (by omega), HR.out]
      exact ⟨rfl, q1.setCell _ _ (fun _ h => h rfl), _, heap_setCell_same q2 _, .inl ⟨rfl, rfl⟩, fun q hq => by cases hq⟩
    · obtain ⟨g, o, hv⟩ : ∃ g o, A1 = some ⟨g, o, none⟩ ∧ ByAt w1 g o al := by
        rcases hBv with ⟨h1, h2⟩ | ⟨g, o, d, h1, _, h2⟩
        · subst h2; simp at hL; omega
        · cases h1; exact ⟨g, o, rfl, h2⟩
      obtain ⟨rfl, hA⟩ := hv
      obtain ⟨M, hM⟩ : ∃ M, L = M + k := ⟨L - k, by omega⟩
      have hi1 : (L : Int) - (k : Int) = (M : Int) := by omega
      have hi2 : L - M = k := by omega
      have hi3 : L - k = M := by omega
      have hAr : ByAt wr g o al := hA.fr (Fr.of_below (S := fun k => k < w1.heap.size) hB (fun _ _ h => h)) (fun h => hA.lt h)
      have FR := Lib.hid (frontU_any g (o + M) k (C1 - M) (al.drop M) wr (by rw [List.length_drop]; omega) (by omega) hk3 (by omega) (hAr.drop M) (T1.below hB (by omega)))
      have hlow : M ≤ L := by omega
      have HM := Lib.hid hM
      clear hM
      have hkk : 0 < k := by omega
      cases hbv : frB (al.drop M)
      · rw [hbv] at FR
        have HN := Lib.hid (And.intro hno (And.intro hB hbv))
        clear hno hB hbv hF hpr hBr hBv hA hAr
        go_wp2_with (go_at_call 21; refine FR.out.mono ?_; rintro e w2 ⟨rfl, hb2⟩)
        go_roundw
        case rel =>
          have hM := HM.out
          obtain ⟨q1, q2, q3⟩ := HN.out
          refine ⟨k - 1, by rw [show ((k - 1 : Nat) : Int) = (k : Int) - 1 by omega], by omega, by omega, fun j h1 h2 h3 => ?_, q2.trans (hb2.mono q2.size)⟩
          rcases Nat.lt_or_ge k j with h4 | h4
          · exact q1 j h4 h2 h3
          · obtain rfl : j = k := by omega
            rw [hi3]; exact q3
        case measure => simp [intOf]; omega
      · rw [hbv] at FR
        have HN := Lib.hid (And.intro hno (And.intro hB (And.intro hbv (And.intro hF (And.intro hpr hAr)))))
        have hM := HM.out
        have AP7 : Hid (∀ W q, Below wr.heap.size wr W → ∃ v' w', (Builtin.append_ #[27, 27] 27 #[.slice (some ⟨q, 0, none⟩) 0 0, .slice (some ⟨g, o + M, none⟩) k (C1 - M)]).run Tryd.prog W = .ok v' w' ∧ (Below wr.heap.size wr w' ∧ Bsl w' v' (al.drop M) ∧ ∀ q, v'.ownBlock = some q → wr.heap.size ≤ q)) := Lib.hid (fun W q hW => by
          have hdl : (al.drop M).length = k := by rw [List.length_drop]; omega
          obtain ⟨v', w', h1, h2, h3, h4⟩ := app_bytes2 W (some ⟨q, 0, none⟩) 0 [] (al.drop M) (.slice (some ⟨g, o + M, none⟩) k (C1 - M)) rfl (.inr ⟨q, 0, 0, rfl, Nat.le_refl _, fun j b hj => by simp at hj⟩) (.inr ⟨g, o + M, C1 - M, by rw [hdl], by omega, ((hAr.drop M).fr (Fr.of_below (S := fun k => k < wr.heap.size) hW (fun _ _ h => h)) (fun _ => hAr.lt (by omega)))⟩) (by simp; omega)
          exact ⟨v', w', h1, hW.trans (h2.mono hW.size), h3, fun q hq => Nat.le_trans hW.size (h4 (by omega) q hq)⟩)
        have HDL := Lib.hid (show (al.drop M).length = k by rw [List.length_drop]; omega)
        obtain ⟨R, hR⟩ : ∃ R, (⟨(al.take M).toArray⟩ : ByteArray) = R := ⟨_, rfl⟩
        clear hno hB hbv hF hBr hBv hA hAr hM
        go_wp2_with (first
          | (go_at_call 21; refine FR.out.mono ?_; rintro e w2 ⟨rfl, hb2⟩)
          | (at_builtin; go_must (refine wpList_append_any (R := fun v' w' => Below wr.heap.size wr w' ∧ Bsl w' v' (al.drop M) ∧ ∀ q, v'.ownBlock = some q → wr.heap.size ≤ q) rfl _ _ 27 rfl _ _ rfl rfl (AP7.out _ _ (hb2.alloc hb2.size _)) ?_); rintro v3 w3 ⟨hb3, hB3, hQ3⟩; obtain ⟨A3, C3, hv3, hC3, _⟩ := hB3.form; rw [HDL.out] at hv3; subst hv3; have HQ3 := Lib.hid hQ3; clear hQ3; have hp3 := (hb3.block _ (World.block_lt_of_cell? _ _ cpr)).trans hpr; have cp3 := (cell_of_block hp3).1; have fp3 := (cell_of_block hp3).2; have cv3 := conv_bsl ((Bsl.slice (w := w3) (g := g) (o := o) (c := C1) (l := al) (by omega) (HN.out.2.2.2.2.2.fr (Fr.of_below (S := fun k => k < wr.heap.size) hb3 (fun _ _ h => h)) (fun h => HN.out.2.2.2.2.2.lt h)) M C1 (by omega) (by omega)).setBox hp3 (u := .slice A3 k C3)); rw [hR] at cv3))
        go_ret
        obtain ⟨q1, q2, q3, q4, q5, q6⟩ := HN.out
        have hM := HM.out
        have hh : hold al = k := hold_eq hk3 (by omega) (fun j h1 h2 h3 => by rw [hL]; exact q1 j h1 h2 (by omega)) (.inr (by rw [hL, hi3]; exact q3))
        rw [hh, hi3, hR]
        have hb3' := hb3.size
        exact ⟨rfl, (q4.below hb3 (fun i hi _ => by have := q4.size; omega)).setCell _ _ (fun _ h => h rfl), _, heap_setCell_same hp3 _, hB3.setBox hp3, fun q hq => by have := HQ3.out q hq; have := q4.size; omega⟩)
theorem feedU_fr (p : Nat) (xv : Value) (l b : List UInt8) (w : World) (hp : 2 ≤ p) (hP : Pc w p l) (hX : Bsl w xv b) (T : Tabs w) (hs : l.length + b.length ≤ 4194304) :
    Calls Tryd.prog 7 #[.pointer (some ⟨p, 0, none⟩), xv] w fun e w' => e = .returned (.string ⟨((l ++ b).take ((l ++ b).length - hold (l ++ b))).toArray⟩) ∧ Fr (fun k => k ≠ p) w w' ∧ Pcn w' p ((l ++ b).drop ((l ++ b).length - hold (l ++ b))) w.heap.size := feedU_frx p xv l b w hp hP (.inl hX) T hs
theorem feedU_any (p : Nat) (xv : Value) (l b : List UInt8) (w : World) (hp : 2 ≤ p) (hP : Pc w p l) (hX : Bsl w xv b) (T : Tabs w) (hs : l.length + b.length ≤ 4194304) :
    Calls Tryd.prog 7 #[.pointer (some ⟨p, 0, none⟩), xv] w fun e w' => e = .returned (.string ⟨((l ++ b).take ((l ++ b).length - hold (l ++ b))).toArray⟩) ∧ Fr (fun k => k ≠ p) w w' ∧ Pc w' p ((l ++ b).drop ((l ++ b).length - hold (l ++ b))) :=
  (feedU_fr p xv l b w hp hP hX T hs).mono fun e w' ⟨h1, h2, h3⟩ => ⟨h1, h2, h3.pc⟩
end Go.Proofs.YtokbmihjpllgpaaDoor
