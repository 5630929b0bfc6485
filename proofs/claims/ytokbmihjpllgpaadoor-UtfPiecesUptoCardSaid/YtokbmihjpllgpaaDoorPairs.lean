/- How many units of UTF-16; how many signs, by the reference. -/
import Derived.Test.YtokbmihjpllgpaaDoorRefSigns
import Derived.Test.YtokbmihjpllgpaaDoorCount
import Derived.Test.YtokbmihjpllgpaaDoorAll
set_option linter.unusedVariables false
namespace Go.Proofs.YtokbmihjpllgpaaDoor
open Go.RowKit Go.Lib

theorem usum_put (a : Nat) (l : List U.Tk) : ((U.put a l).map fun x => U.un x.rune).sum = U.usum 3 l := by
  induction l generalizing a with
  | nil => rfl
  | cons t l ih => simp [U.put, U.usum, U.szu] at ih ⊢; rw [ih]

theorem row_cell {w : World} {base : Nat} {e : TypeId} {sz g n cap : Nat} {xs : List Value} (h : w.ownsRow base e sz (.slice (some ⟨g, 0, none⟩) n cap) n xs) (j : Nat) (u : Value) (hu : xs[j]? = some u) : w.cell? ⟨g, j, none⟩ = some u := by
  have := h.cells (g := g) rfl j u hu
  rwa [show (⟨g, 0, none⟩ : Addr).add j = ⟨g, j, none⟩ by unfold Addr.add; split <;> simp_all] at this

theorem flat4 {α : Type} (f : α → List Value) (hf : ∀ x, (f x).length = 4) (l : List α) (i k : Nat) (x : α) (hx : l[i]? = some x) (hk : k < 4) : (l.flatMap f)[i * 4 + k]? = (f x)[k]? := by
  induction l generalizing i with
  | nil => simp at hx
  | cons a l ih =>
    cases i with
    | zero =>
      simp at hx
      subst hx
      rw [List.flatMap_cons, List.getElem?_append_left (by rw [hf]; omega), Nat.zero_mul, Nat.zero_add]
    | succ i =>
      have := ih i (by simpa using hx)
      rw [List.flatMap_cons, List.getElem?_append_right (by rw [hf]; omega), hf, ← this]
      congr 1
      omega

theorem own_form {w : World} {base : Nat} {e : TypeId} {sz n : Nat} {v : Value} {xs : List Value} (h : w.ownsRow base e sz v n xs) : ∃ A c, v = .slice A n c ∧ (0 < n → ∃ g, A = some ⟨g, 0, none⟩) := by
  rcases h.2 with ⟨rfl, rfl⟩ | ⟨g, cap, cur, rfl, _⟩
  · exact ⟨none, 0, rfl, fun h => absurd h (by omega)⟩
  · exact ⟨_, cap, rfl, fun _ => ⟨g, rfl⟩⟩
theorem cellR_length (x : U.Sg) : (cellR x).length = 4 := rfl
theorem cellS_length (x : U.Sg) : (cellS x).length = 4 := rfl
/-- The four cells of element k. -/
theorem cellsR_at {w : World} {base : Nat} {e : TypeId} {g cap k : Nat} {l : List U.Sg} {x : U.Sg} (h : w.ownsRow base e 4 (.slice (some ⟨g, 0, none⟩) l.length cap) l.length (cellsR l)) (hx : l[k]? = some x) :
    w.cell? ⟨g, k * 4, none⟩ = some (.int .i64 (x.at_ : Int)) ∧ w.cell? ⟨g, k * 4 + 1, none⟩ = some (.int .i64 (x.len : Int)) ∧ w.cell? ⟨g, k * 4 + 2, none⟩ = some (.int .i64 (x.rune : Int)) ∧ w.cell? ⟨g, k * 4 + 3, none⟩ = some (.bool x.bad) :=
  ⟨row_cell h _ _ (flat4 cellR cellR_length l k 0 x hx (by omega)), row_cell h _ _ (flat4 cellR cellR_length l k 1 x hx (by omega)), row_cell h _ _ (flat4 cellR cellR_length l k 2 x hx (by omega)), row_cell h _ _ (flat4 cellR cellR_length l k 3 x hx (by omega))⟩
theorem cellsS_at {w : World} {base : Nat} {e : TypeId} {g cap k : Nat} {l : List U.Sg} {x : U.Sg} (h : w.ownsRow base e 4 (.slice (some ⟨g, 0, none⟩) l.length cap) l.length (cellsS l)) (hx : l[k]? = some x) :
    w.cell? ⟨g, k * 4, none⟩ = some (.int .i64 (x.at_ : Int)) ∧ w.cell? ⟨g, k * 4 + 1, none⟩ = some (.int .i64 (x.len : Int)) ∧ w.cell? ⟨g, k * 4 + 2, none⟩ = some (.int .i32 (x.rune : Int)) ∧ w.cell? ⟨g, k * 4 + 3, none⟩ = some (.bool x.bad) :=
  ⟨row_cell h _ _ (flat4 cellS cellS_length l k 0 x hx (by omega)), row_cell h _ _ (flat4 cellS cellS_length l k 1 x hx (by omega)), row_cell h _ _ (flat4 cellS cellS_length l k 2 x hx (by omega)), row_cell h _ _ (flat4 cellS cellS_length l k 3 x hx (by omega))⟩

/-- The units of the first k signs. -/
def upTo (f : U.Sg → Nat) (l : List U.Sg) (k : Nat) : Nat := ((l.take k).map f).sum
theorem upTo_succ (f : U.Sg → Nat) {l : List U.Sg} {k : Nat} {x : U.Sg} (hx : l[k]? = some x) : upTo f l (k + 1) = upTo f l k + f x := by
  unfold upTo
  rw [List.take_add_one, hx]
  simp
theorem upTo_all (f : U.Sg → Nat) (l : List U.Sg) : upTo f l l.length = (l.map f).sum := by unfold upTo; rw [List.take_length]
theorem upTo_le (f : U.Sg → Nat) (c : Nat) (hf : ∀ x, f x ≤ c) (l : List U.Sg) (k : Nat) : upTo f l k ≤ c * k := by
  unfold upTo
  induction k generalizing l with
  | zero => simp
  | succ k ih =>
    cases l with
    | nil => simp
    | cons x l =>
      have := ih l
      have := hf x
      rw [List.take_succ_cons, List.map_cons, List.sum_cons, Nat.mul_succ]
      omega
theorem un_le (c : Nat) : 1 ≤ U.un c ∧ U.un c ≤ 2 := by unfold U.un; split <;> omega
theorem signs_len_le (s : ByteArray) : (U.signs s.data.toList).length ≤ s.size := by rw [U.size_eq]; exact U.signs_length_le _

theorem toks_signs (l : List UInt8) : (U.toks l).length = (U.signs l).length := by rw [U.signs, U.put_length]

set_option maxRecDepth 1000000 in
theorem pairs_utf (s : ByteArray) (w : World) (hs : s.size ≤ 4194304) :
    Calls Tryd.prog 25 #[.string s] w fun e w' => e = .returned (.int .i64 (U.usum 3 (U.toks s.data.toList) : Int)) ∧ Below w.heap.size w w' := by
  have hU : (U.usum 3 (U.toks s.data.toList)) = (((U.toks s.data.toList).map fun t => U.un t.1).sum) := rfl
  rw [hU]
  clear hU
  go_enter Tryd.func25, Tryd.ntmps25
  go_wp2
  go_loopw [3] (fun n w' => ∃ (pos k : Nat), w' = w.iter s pos ∧ n = .int .i64 k ∧ k + ((U.toks (s.data.toList.drop pos)).map fun t => U.un t.1).sum = ((U.toks s.data.toList).map fun t => U.un t.1).sum ∧ k ≤ 2 * pos ∧ pos ≤ s.size) (fun _ w' => s.size - w'.iterPos w.heap.size)
  case atStart => exact ⟨0, 0, rfl, rfl, by simp, by omega, by omega⟩
  case round =>
    obtain ⟨pos, k, rfl, rfl, hc, hb, hps⟩ := hrel
    by_cases hp : pos < s.size
    · have hnx : ∀ ty, (Instr.next (.pointer (some ⟨w.heap.size, 0, none⟩)) true ty).run Tryd.prog (w.iter s pos) = _ := fun ty => run_next_any w s pos ty hp
      have hd := decode_facts hp
      rw [toks_at hp, List.map_cons, List.sum_cons] at hc
      obtain ⟨c, wd, hdec⟩ : ∃ c wd, Utf8.decode s pos = (c, wd) := ⟨_, _, rfl⟩
      rw [hdec] at hd hc hnx
      simp only at hd hc hnx
      have hun := un_le c
      have hd1 := hd.1
      have hd2 := hd.2.2.1
      have H := Lib.hid hc
      clear hc hd hdec
      go_wp2_with (go_at_call 33; refine (pairs_any _ _).mono ?_; rintro e w' ⟨rfl, rfl⟩)
      go_roundw
      case rel =>
        have hc := H.out
        exact ⟨pos + wd, k + U.un c, rfl, by go_num, by omega, by omega, by omega⟩
      case measure =>
        simp
        omega
    · have hnx : ∀ ty, (Instr.next (.pointer (some ⟨w.heap.size, 0, none⟩)) true ty).run Tryd.prog (w.iter s pos) = _ := fun ty => run_next_end w s pos ty hp
      rw [toks_end hp] at hc
      have H := Lib.hid hc
      clear hc
      go_wp2
      go_ret
      exact ⟨r_int (by rw [← H.out]; simp), (Below.refl _ _).alloc (Nat.le_refl _) _⟩

end Go.Proofs.YtokbmihjpllgpaaDoor
