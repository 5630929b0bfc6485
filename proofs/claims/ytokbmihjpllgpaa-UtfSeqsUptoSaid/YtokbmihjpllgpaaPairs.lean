/- How many units of UTF-16; how many signs, by the reference. -/
import Derived.Test.YtokbmihjpllgpaaRefSigns
import Derived.Test.YtokbmihjpllgpaaCount
import Derived.Test.YtokbmihjpllgpaaAll
set_option linter.unusedVariables false
namespace Go.Proofs.Ytokbmihjpllgpaa
open Go.RowKit Go.Lib

theorem usum_put (a : Nat) (l : List U.Tk) : ((U.put a l).map fun x => U.un x.rune).sum = U.usum 3 l := by
  induction l generalizing a with
  | nil => rfl
  | cons t l ih => simp [U.put, U.usum, U.szu] at ih ⊢; rw [ih]

theorem row_cell {w : World} {base : Nat} {e : TypeId} {sz g n cap : Nat} {xs : List Value} (h : w.ownsRow base e sz (.slice (some ⟨g, 0, none⟩) n cap) n xs) (j : Nat) (u : Value) (hu : xs[j]? = some u) : w.cell? ⟨g, j, none⟩ = some u := by
  have := h.cells (g := g) rfl j u hu
  rwa [show (⟨g, 0, none⟩ : Addr).add j = ⟨g, j, none⟩ by unfold Addr.add; split <;> simp_all] at this

theorem flat4 {α : Type} (f : α → List Value) (hf : ∀ x, (f x).length = 4) (l : List α) (i k : Nat) (x : α) (hx : l[i]? = some x) (hk : k < 4) : (l.flatMap f)[i * 4 + k]? = (f x)[k]? := by
  induction l generalizing i with
  | nil => simp at hx
  | cons a l ih =>
    cases i with
    | zero =>
      simp at hx
      subst hx
      rw [List.flatMap_cons, List.getElem?_append_left (by rw [hf]; omega), Nat.zero_mul, Nat.zero_add]
    | succ i =>
      have := ih i (by simpa using hx)
      rw [List.flatMap_cons, List.getElem?_append_right (by rw [hf]; omega), hf, ← this]
      congr 1
      omega

theorem own_form {w : World} {base : Nat} {e : TypeId} {sz n : Nat} {v : Value} {xs : List Value} (h : w.ownsRow base e sz v n xs) : ∃ A c, v = .slice A n c ∧ (0 < n → ∃ g, A = some ⟨g, 0, none⟩) := by
  rcases h.2 with ⟨rfl, rfl⟩ | ⟨g, cap, cur, rfl, _⟩
  · exact ⟨none, 0, rfl, fun h => absurd h (by omega)⟩
  · exact ⟨_, cap, rfl, fun _ => ⟨g, rfl⟩⟩
theorem cellR_length (x : U.Sg) : (cellR x).length = 4 := rfl
theorem cellS_length (x : U.Sg) : (cellS x).length = 4 := rfl
/-- The four cells of element k. -/
theorem cellsR_at {w : World} {base : Nat} {e : TypeId} {g cap k : Nat} {l : List U.Sg} {x : U.Sg} (h : w.ownsRow base e 4 (.slice (some ⟨g, 0, none⟩) l.length cap) l.length (cellsR l)) (hx : l[k]? = some x) :
    w.cell? ⟨g, k * 4, none⟩ = some (.int .i64 (x.at_ : Int)) ∧ w.cell? ⟨g, k * 4 + 1, none⟩ = some (.int .i64 (x.len : Int)) ∧ w.cell? ⟨g, k * 4 + 2, none⟩ = some (.int .i64 (x.rune : Int)) ∧ w.cell? ⟨g, k * 4 + 3, none⟩ = some (.bool x.bad) :=
  ⟨row_cell h _ _ (flat4 cellR cellR_length l k 0 x hx (by omega)), row_cell h _ _ (flat4 cellR cellR_length l k 1 x hx (by omega)), row_cell h _ _ (flat4 cellR cellR_length l k 2 x hx (by omega)), row_cell h _ _ (flat4 cellR cellR_length l k 3 x hx (by omega))⟩
theorem cellsS_at {w : World} {base : Nat} {e : TypeId} {g cap k : Nat} {l : List U.Sg} {x : U.Sg} (h : w.ownsRow base e 4 (.slice (some ⟨g, 0, none⟩) l.length cap) l.length (cellsS l)) (hx : l[k]? = some x) :
    w.cell? ⟨g, k * 4, none⟩ = some (.int .i64 (x.at_ : Int)) ∧ w.cell? ⟨g, k * 4 + 1, none⟩ = some (.int .i64 (x.len : Int)) ∧ w.cell? ⟨g, k * 4 + 2, none⟩ = some (.int .i32 (x.rune : Int)) ∧ w.cell? ⟨g, k * 4 + 3, none⟩ = some (.bool x.bad) :=
  ⟨row_cell h _ _ (flat4 cellS cellS_length l k 0 x hx (by omega)), row_cell h _ _ (flat4 cellS cellS_length l k 1 x hx (by omega)), row_cell h _ _ (flat4 cellS cellS_length l k 2 x hx (by omega)), row_cell h _ _ (flat4 cellS cellS_length l k 3 x hx (by omega))⟩

/-- The units of the first k signs. -/
def upTo (f : U.Sg → Nat) (l : List U.Sg) (k : Nat) : Nat := ((l.take k).map f).sum
theorem upTo_succ (f : U.Sg → Nat) {l : List U.Sg} {k : Nat} {x : U.Sg} (hx : l[k]? = some x) : upTo f l (k + 1) = upTo f l k + f x := by
  unfold upTo
  rw [List.take_add_one, hx]
  simp
theorem upTo_all (f : U.Sg → Nat) (l : List U.Sg) : upTo f l l.length = (l.map f).sum := by unfold upTo; rw [List.take_length]
theorem upTo_le (f : U.Sg → Nat) (c : Nat) (hf : ∀ x, f x ≤ c) (l : List U.Sg) (k : Nat) : upTo f l k ≤ c * k := by
  unfold upTo
  induction k generalizing l with
  | zero => simp
  | succ k ih =>
    cases l with
    | nil => simp
    | cons x l =>
      have := ih l
      have := hf x
      rw [List.take_succ_cons, List.map_cons, List.sum_cons, Nat.mul_succ]
      omega
theorem un_le (c : Nat) : 1 ≤ U.un c ∧ U.un c ≤ 2 := by unfold U.un; split <;> omega
theorem signs_len_le (s : ByteArray) : (U.signs s.data.toList).length ≤ s.size := by rw [U.size_eq]; exact U.signs_length_le _

set_option maxRecDepth 1000000 in
theorem pairsR_any (s : ByteArray) (w : World) (hs : s.size ≤ 4194304) :
    Calls Try.prog 26 #[.string s] w fun e w' => e = .returned (.int .i64 (U.usum 3 (U.toks s.data.toList) : Int)) ∧ Below w.heap.size w w' := by
  have hll := signs_len_le s
  have hU : (U.usum 3 (U.toks s.data.toList)) = upTo (fun x => U.un x.rune) (U.signs s.data.toList) (U.signs s.data.toList).length := by rw [upTo_all, U.signs, usum_put]
  rw [hU]
  clear hU
  have SG := signsR_any s w hs
  obtain ⟨l, hl⟩ : ∃ l, U.signs s.data.toList = l := ⟨_, rfl⟩
  rw [hl] at SG hll ⊢
  clear hl
  have HSG := Lib.hid SG
  clear SG
  go_enter Try.func26, Try.ntmps26
  go_wp2_with (go_at_call 22; refine HSG.out.mono ?_; rintro e w1 ⟨v, rfl, hb1, hrow⟩)
  obtain ⟨A, cp, rfl, hA⟩ := own_form hrow
  go_loopw [4, 5] (fun n i wr => ∃ k : Nat, n = .int .i64 (upTo (fun x => U.un x.rune) l k : Int) ∧ i = .int .i64 (k : Int) ∧ k ≤ l.length ∧ Below w.heap.size w wr ∧ Below w1.heap.size w1 wr) (fun _ i _ => l.length - (intOf i).toNat)
  case atStart => exact ⟨0, rfl, rfl, Nat.zero_le _, hb1, Below.refl _ _⟩
  case round =>
    obtain ⟨k, rfl, rfl, hk, hB, hB1⟩ := hrel
    by_cases hlt : k < l.length
    · obtain ⟨g, rfl⟩ := hA (by omega)
      have hx : l[k]? = some l[k] := List.getElem?_eq_getElem hlt
      obtain ⟨x, hxx⟩ : ∃ x, l[k] = x := ⟨_, rfl⟩
      rw [hxx] at hx
      clear hxx
      obtain ⟨c0, c1, c2, c3⟩ := cellsR_at (own_below hrow hB1) hx
      have hsu := upTo_succ (fun x => U.un x.rune) hx
      have hle := upTo_le (fun x => U.un x.rune) 2 (fun x => (un_le _).2) l k
      have hun := un_le x.rune
      have HS := Lib.hid hsu
      clear hsu hx hrow hA
      go_wp2_with (go_at_call 52; refine (units_any _ _ _ _ _).mono ?_; rintro e w2 ⟨rfl, hb2⟩)
      go_roundw
      case rel => exact ⟨k + 1, by rw [HS.out]; go_num, by go_num, hlt, hB.trans (hb2.mono hB.size), hB1.trans (hb2.mono hB1.size)⟩
      case measure => simp [intOf]; omega
    · obtain rfl : k = l.length := by omega
      go_wp2
      go_ret
      exact ⟨rfl, hB⟩

theorem toks_signs (l : List UInt8) : (U.toks l).length = (U.signs l).length := by rw [U.signs, U.put_length]

theorem countR_any (s : ByteArray) (w : World) (hs : s.size ≤ 4194304) :
    Calls Try.prog 24 #[.string s] w fun e w' => e = .returned (.int .i64 (U.toks s.data.toList).length) ∧ Below w.heap.size w w' := by
  rw [toks_signs]
  go_enter Try.func24, Try.ntmps24
  go_wp2_with (go_at_call 22; refine (signsR_any _ _ hs).mono ?_; rintro e w1 ⟨v, rfl, hb1, hrow⟩; obtain ⟨A, cp, rfl, hA⟩ := own_form hrow)
  go_ret
  exact ⟨rfl, hb1⟩

set_option maxRecDepth 1000000 in
theorem pairs_utf (s : ByteArray) (w : World) (hs : s.size ≤ 4194304) :
    Calls Try.prog 25 #[.string s] w fun e w' => e = .returned (.int .i64 (U.usum 3 (U.toks s.data.toList) : Int)) ∧ Below w.heap.size w w' := by
  have hU : (U.usum 3 (U.toks s.data.toList)) = (((U.toks s.data.toList).map fun t => U.un t.1).sum) := rfl
  rw [hU]
  clear hU
  go_enter Try.func25, Try.ntmps25
  go_wp2
  go_loopw [3] (fun n w' => ∃ (pos k : Nat), w' = w.iter s pos ∧ n = .int .i64 k ∧ k + ((U.toks (s.data.toList.drop pos)).map fun t => U.un t.1).sum = ((U.toks s.data.toList).map fun t => U.un t.1).sum ∧ k ≤ 2 * pos ∧ pos ≤ s.size) (fun _ w' => s.size - w'.iterPos w.heap.size)
  case atStart => exact ⟨0, 0, rfl, rfl, by simp, by omega, by omega⟩
  case round =>
    obtain ⟨pos, k, rfl, rfl, hc, hb, hps⟩ := hrel
    by_cases hp : pos < s.size
    · have hnx : ∀ ty, (Instr.next (.pointer (some ⟨w.heap.size, 0, none⟩)) true ty).run Try.prog (w.iter s pos) = _ := fun ty => run_next_any w s pos ty hp
      have hd := decode_facts hp
      rw [toks_at hp, List.map_cons, List.sum_cons] at hc
      obtain ⟨c, wd, hdec⟩ : ∃ c wd, Utf8.decode s pos = (c, wd) := ⟨_, _, rfl⟩
      rw [hdec] at hd hc hnx
      simp only at hd hc hnx
      have hun := un_le c
      have hd1 := hd.1
      have hd2 := hd.2.2.1
      have H := Lib.hid hc
      clear hc hd hdec
      go_wp2_with (go_at_call 51; refine (pairs_any _ _).mono ?_; rintro e w' ⟨rfl, rfl⟩)
      go_roundw
      case rel =>
        have hc := H.out
        exact ⟨pos + wd, k + U.un c, rfl, by go_num, by omega, by omega, by omega⟩
      case measure =>
        simp
        omega
    · have hnx : ∀ ty, (Instr.next (.pointer (some ⟨w.heap.size, 0, none⟩)) true ty).run Try.prog (w.iter s pos) = _ := fun ty => run_next_end w s pos ty hp
      rw [toks_end hp] at hc
      have H := Lib.hid hc
      clear hc
      go_wp2
      go_ret
      exact ⟨r_int (by rw [← H.out]; simp), (Below.refl _ _).alloc (Nat.le_refl _) _⟩

set_option maxRecDepth 1000000 in
/-- Alike, of the same signs. -/
theorem alike_same (v r : Value) (l : List U.Sg) (b1 b2 : Nat) (w : World) (hl : l.length ≤ 4194304) (hrn : ∀ x ∈ l, x.rune ≤ 1114111) (hv : w.ownsRow b1 40 4 v l.length (cellsS l)) (hr : w.ownsRow b2 70 4 r l.length (cellsR l)) :
    Calls Try.prog 20 #[v, r] w fun e w' => e = .returned (.bool true) ∧ Below w.heap.size w w' := by
  obtain ⟨A, cp, rfl, hA⟩ := own_form hv
  obtain ⟨A', cp', rfl, hA'⟩ := own_form hr
  go_enter Try.func20, Try.ntmps20
  go_wp2
  go_loopw [5] (fun i wr => ∃ (k : Nat) (m : Nat), i = .int .i64 (k : Int) ∧ k ≤ l.length ∧ wr = w.drewN m) (fun i _ => l.length - (intOf i).toNat)
  case atStart => exact ⟨0, 0, rfl, Nat.zero_le _, rfl⟩
  case round =>
    obtain ⟨k, m, rfl, hk, rfl⟩ := hrel
    by_cases hlt : k < l.length
    · obtain ⟨g, rfl⟩ := hA (by omega)
      obtain ⟨g', rfl⟩ := hA' (by omega)
      have hx : l[k]? = some l[k] := List.getElem?_eq_getElem hlt
      obtain ⟨x, hxx⟩ : ∃ x, l[k] = x := ⟨_, rfl⟩
      rw [hxx] at hx
      clear hxx
      obtain ⟨c0, c1, c2, c3⟩ := cellsS_at hv hx
      obtain ⟨d0, d1, d2, d3⟩ := cellsR_at hr hx
      have hxr := hrn x (List.mem_of_getElem? hx)
      have HW := Lib.hid (show IntKind.i64.wrap (x.rune : Int) = (x.rune : Int) from IntWalk.i64_in _ (by omega))
      clear hx hv hr hA hA' hrn
      go_wp2
      have hw := HW.out
      go_quiet (fail)
      clear hw
      go_wp2
      go_roundw
      case rel => exact ⟨k + 1, m + nq, by go_num, by omega, rfl⟩
      case measure => simp [intOf]; omega
    · obtain rfl : k = l.length := by omega
      go_wp2
      go_ret
      exact ⟨rfl, below_dn (Below.refl _ _) _⟩
end Go.Proofs.Ytokbmihjpllgpaa
