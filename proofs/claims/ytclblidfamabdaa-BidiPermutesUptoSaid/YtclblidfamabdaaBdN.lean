/- Rows of numbers: read, owned, written. -/
import Derived.Test.YtclblidfamabdaaBdC
import Derived.Test.YtclblidfamabdaaColl
import Derived.Deep.QuietTactic
import Derived.BigQuiet
import Derived.Handy
import Derived.IntWalk
set_option linter.unusedVariables false
set_option linter.unusedSimpArgs false
namespace Go.Proofs.Ytclblidfamabdaa
open Go.RowKit Go.Shelf Go.Lib Go.BigFrame
attribute [local go_sem] Oper.semAt_some

theorem Try.infoIn : (Try.prog.info? 3).map (fun i => (i.zero, i.size, i.bytes)) = some (some (.int .i64 0), 1, 8) := by kernel_rfl
/-- A number, turned at one place. -/
def upd (c : Nat → Int) (k : Nat) (x : Int) : Nat → Int := fun j => if j = k then x else c j
theorem upd_at (c : Nat → Int) (k : Nat) (x : Int) : upd c k x k = x := if_pos rfl
theorem upd_ne (c : Nat → Int) {k j : Nat} (x : Int) (h : j ≠ k) : upd c k x j = c j := if_neg h
/-- The first n numbers as cells. -/
def ns (c : Nat → Int) (n : Nat) : List Value := (List.range n).map fun j => .int .i64 (c j)
theorem ns_length (c : Nat → Int) (n : Nat) : (ns c n).length = n := by simp [ns]
theorem ns_succ (c : Nat → Int) (n : Nat) : ns c (n + 1) = ns c n ++ [.int .i64 (c n)] := by simp [ns, List.range_succ]
theorem ns_at (c : Nat → Int) {n j : Nat} (h : j < n) : (ns c n)[j]? = some (.int .i64 (c j)) := by simp [ns, h]
theorem ns_congr {c d : Nat → Int} {n : Nat} (h : ∀ j, j < n → c j = d j) : ns c n = ns d n := by
  unfold ns
  exact List.map_congr_left (fun j hj => by rw [h j (List.mem_range.1 hj)])
theorem ns_take (c : Nat → Int) {n m : Nat} (h : m ≤ n) : (ns c n).take m = ns c m := by
  unfold ns
  rw [← List.map_take, List.take_range, Nat.min_eq_left h]

/-- A row that may be written: what its first n cells hold. -/
def Rw (w : World) (g : Nat) (c : Nat → Int) (n : Nat) : Prop := ∃ cur, w.heap[g]? = some (.cells cur 3 (0, 0)) ∧ n ≤ cur.size ∧ ∀ j, j < n → cur[j]? = some (.int .i64 (c j))
theorem Rw.lt {w : World} {g : Nat} {c : Nat → Int} {n : Nat} (h : Rw w g c n) : g < w.heap.size := by obtain ⟨cur, h1, _⟩ := h; exact (Array.getElem?_eq_some_iff.1 h1).1
theorem Rw.at {w : World} {g : Nat} {c : Nat → Int} {n j : Nat} (h : Rw w g c n) (hj : j < n) : w.cell? ⟨g, j, none⟩ = some (.int .i64 (c j)) ∧ w.frozen? ⟨g, j, none⟩ = false := by
  obtain ⟨cur, h1, h2, h3⟩ := h
  constructor
  · simp only [World.cell?, h1]
    simp only [h3 j hj]
    rfl
  · simp [World.frozen?, h1]
theorem Rw.set {w : World} {g : Nat} {c : Nat → Int} {n : Nat} (h : Rw w g c n) (k : Nat) (x : Int) : Rw (w.setCell ⟨g, k, none⟩ (.int .i64 x)) g (upd c k x) n := by
  obtain ⟨cur, h1, h2, h3⟩ := h
  refine ⟨cur.setIfInBounds k (.int .i64 x), ?_, by simpa using h2, fun j hj => ?_⟩
  · show (w.heap.modify g _)[g]? = _
    rw [Array.getElem?_modify, if_pos rfl, h1]
    rfl
  · rw [Array.getElem?_setIfInBounds]
    by_cases e : k = j
    · subst e; rw [if_pos rfl, if_pos (by omega), upd_at]
    · rw [if_neg e, upd_ne _ _ (Ne.symm e)]; exact h3 j hj
theorem Rw.fr {S : Nat → Prop} {w w' : World} {g : Nat} {c : Nat → Int} {n : Nat} (h : Rw w g c n) (hf : Fr S w w') (hS : S g) : Rw w' g c n := by
  have hl := h.lt
  obtain ⟨cur, h1, h2, h3⟩ := h
  exact ⟨cur, (hf.block g hl hS).trans h1, h2, h3⟩
theorem Rw.congr {w : World} {g : Nat} {c d : Nat → Int} {n : Nat} (h : Rw w g c n) (e : ∀ j, j < n → c j = d j) : Rw w g d n := by
  obtain ⟨cur, h1, h2, h3⟩ := h
  exact ⟨cur, h1, h2, fun j hj => by rw [← e j hj]; exact h3 j hj⟩
theorem Rw.other {w : World} {g q k : Nat} {c : Nat → Int} {n : Nat} {v : Value} (h : Rw w g c n) (hq : g ≠ q) : Rw (w.setCell ⟨q, k, none⟩ v) g c n :=
  h.fr (S := fun i => i ≠ q) ((Fr.refl _ _).setCell _ _ (fun _ hh => hh rfl)) hq

/-- What a slice of numbers reads. -/
def Rd (w : World) (v : Value) (c : Nat → Int) (n : Nat) : Prop := ∃ A cap, v = .slice A n cap ∧ n ≤ cap ∧ (0 < n → ∃ g o, A = some ⟨g, o, none⟩ ∧ ∀ j, j < n → w.cell? ⟨g, o + j, none⟩ = some (.int .i64 (c j)))
theorem Rd.fr {S : Nat → Prop} {w w' : World} {v : Value} {c : Nat → Int} {n : Nat} (h : Rd w v c n) (hf : Fr S w w') (hS : ∀ q, v.ownBlock = some q → q < w.heap.size → S q) : Rd w' v c n := by
  obtain ⟨A, cap, rfl, hle, h1⟩ := h
  refine ⟨A, cap, rfl, hle, fun hn => ?_⟩
  obtain ⟨g, o, rfl, hc⟩ := h1 hn
  refine ⟨g, o, rfl, fun j hj => hf.cell (hc j hj) (hS g rfl (World.block_lt_of_cell? _ _ (hc j hj)))⟩
theorem Rd.below {w w' : World} {v : Value} {c : Nat → Int} {n : Nat} (h : Rd w v c n) (hb : Below w.heap.size w w') : Rd w' v c n :=
  h.fr (Fr.of_below (S := fun k => k < w.heap.size) hb (fun k _ h => h)) (fun _ _ h => h)
theorem Rd.congr {w : World} {v : Value} {c d : Nat → Int} {n : Nat} (h : Rd w v c n) (e : ∀ j, j < n → c j = d j) : Rd w v d n := by
  obtain ⟨A, cap, rfl, hle, h1⟩ := h
  refine ⟨A, cap, rfl, hle, fun hn => ?_⟩
  obtain ⟨g, o, rfl, hc⟩ := h1 hn
  exact ⟨g, o, rfl, fun j hj => by rw [← e j hj]; exact hc j hj⟩
theorem Rw.rd {w : World} {g : Nat} {c : Nat → Int} {n : Nat} (h : Rw w g c n) (cap : Nat) (hc : n ≤ cap) : Rd w (.slice (some ⟨g, 0, none⟩) n cap) c n :=
  ⟨_, cap, rfl, hc, fun _ => ⟨g, 0, rfl, fun j hj => by rw [Nat.zero_add]; exact (h.at hj).1⟩⟩
theorem row_rw {w : World} {base g n cap : Nat} {c : Nat → Int} (h : w.ownsRow base 3 1 (.slice (some ⟨g, 0, none⟩) n cap) n (ns c n)) : Rw w g c n := by
  rcases h.2 with ⟨h1, _⟩ | ⟨g', cap', cur, h1, h2, h3, h4, h5, h6, h7⟩
  · cases h1
  · cases h1
    refine ⟨cur, h3, by omega, fun j hj => ?_⟩
    have h8 := ns_at c hj
    rw [← h7, Nat.mul_one, List.getElem?_take, if_pos hj] at h8
    simpa using h8
theorem row_rd {w : World} {base n : Nat} {v : Value} {c : Nat → Int} (h : w.ownsRow base 3 1 v n (ns c n)) : Rd w v c n := by
  rcases h.2 with ⟨rfl, rfl⟩ | ⟨g, cap, cur, rfl, h2, h3, h4, h5, h6, h7⟩
  · exact ⟨none, 0, rfl, Nat.le_refl _, fun h => absurd h (by omega)⟩
  · exact (row_rw h).rd cap h4
theorem Rd.form {w : World} {v : Value} {c : Nat → Int} {n : Nat} (h : Rd w v c n) : ∃ A cap, v = .slice A n cap ∧ n ≤ cap ∧ (0 < n → ∃ g o, A = some ⟨g, o, none⟩ ∧ ∀ j, j < n → w.cell? ⟨g, o + j, none⟩ = some (.int .i64 (c j))) := h
/-- 'make([]int, n)'. -/
theorem make_rw (W : World) (n : Nat) : Rw (W.alloc (.cells (madeCells (Value.int .i64 0).cells n) 3)) W.heap.size (fun _ => 0) n :=
  ⟨_, World.alloc_heap_new W _, by simp [size_madeCells], fun j hj => by simp [madeCells, Value.cells, hj, Nat.mod_one]⟩

/-! ### The side of a row, the items of a row -/
def stI (x : Nat) : Int := if x = 0 then -1 else if x = 17 then 0 else 1
set_option maxRecDepth 1000000 in
theorem strong_any (rv cv : Value) (it c : Nat → Nat) (n N : Nat) (w : World) (hn : n ≤ 4194304) (hN : N ≤ 4194304) (hr : Rd w rv (fun j => (it j : Int)) n) (hc : Rd w cv (fun j => (c j : Int)) N) (hit : ∀ j, j < n → it j < N) :
    Calls Try.prog 42 #[rv, cv] w fun e w' => e = .returned (.int .i64 (stI (B.stgF c it n 0))) ∧ w = w' := by
  obtain ⟨RA, rc, rfl, hrl, hr1⟩ := hr
  obtain ⟨CA, cc, rfl, hcl, hc1⟩ := hc
  have HP : Hid (∀ k, k ≤ n → (∀ j, j < k → B.S3 (c (it j)) = false) → B.stgF c it n 0 = B.stgF c it (n - k) k) := Lib.hid (fun k => by
    induction k with
    | zero => intro _ _; rfl
    | succ k ih =>
      intro hk h
      rw [ih (by omega) (fun j hj => h j (by omega))]
      obtain ⟨m, hm⟩ : ∃ m, n - k = m + 1 := ⟨n - k - 1, by omega⟩
      rw [hm, show n - (k + 1) = m by omega]
      rw [show B.stgF c it (m + 1) k = if B.S3 (c (it k)) then c (it k) else B.stgF c it m (k + 1) from rfl, h k (by omega)]
      rfl)
  obtain ⟨X, hX⟩ : ∃ X, B.stgF c it n 0 = X := ⟨_, rfl⟩
  rw [hX] at HP ⊢
  have HC := Lib.hid hc1
  have HR := Lib.hid hr1
  have HIT := Lib.hid hit
  clear hX hc1 hr1 hit
  go_enter Try.func42, Try.ntmps42
  go_wp2
  go_loop [9] (fun i => ∃ k : Nat, i = .int .i64 (k : Int) ∧ k ≤ n ∧ ∀ j, j < k → B.S3 (c (it j)) = false) (fun i => n - (intOf i).toNat)
  case atStart => exact ⟨0, rfl, Nat.zero_le _, fun j h => absurd h (Nat.not_lt_zero _)⟩
  case round =>
    obtain ⟨k, rfl, hk, hno⟩ := hrel
    by_cases hlt : k < n
    · obtain ⟨rg, ro, rfl, hrc⟩ := HR.out (by omega)
      have hik := HIT.out k hlt
      obtain ⟨cg, co, rfl, hcc⟩ := HC.out (by omega)
      have r0 := hrc k hlt
      have c0 := hcc _ hik
      have HX : Hid (X = if B.S3 (c (it k)) then c (it k) else B.stgF c it (n - (k + 1)) (k + 1)) := Lib.hid (by
        rw [HP.out k hk hno]
        obtain ⟨m, hm⟩ : ∃ m, n - k = m + 1 := ⟨n - k - 1, by omega⟩
        rw [hm, show n - (k + 1) = m by omega]; rfl)
      obtain ⟨q, hq⟩ : ∃ q, it k = q := ⟨_, rfl⟩
      rw [hq] at r0 c0 hik HX
      obtain ⟨x, hx⟩ : ∃ x, c q = x := ⟨_, rfl⟩
      rw [hx] at c0 HX
      have HNO := Lib.hid hno
      have HS := Lib.hid (show c (it k) = x by rw [hq, hx])
      clear hrc hcc hno hq hx
      by_cases h17 : x = 17
      · subst h17
        go_wp2
        go_ret
        exact ⟨rC_int (by rw [HX.out]; rfl), rfl⟩
      · by_cases h15 : x = 15
        · subst h15
          go_wp2
          go_ret
          exact ⟨rC_int (by rw [HX.out]; rfl), rfl⟩
        · by_cases h14 : x = 14
          · subst h14
            go_wp2
            go_ret
            exact ⟨rC_int (by rw [HX.out]; rfl), rfl⟩
          · have b1 : ((x : Int) == 17) = false := by simp; omega
            have b2 : ((x : Int) == 15) = false := by simp; omega
            have b3 : ((x : Int) == 14) = false := by simp; omega
            go_wp2
            go_round
            case rel =>
              refine ⟨k + 1, by go_num, hlt, fun j hj => ?_⟩
              rcases Nat.lt_or_ge j k with h | h
              · exact HNO.out j h
              · obtain rfl : j = k := by omega
                rw [HS.out]; simp [B.S3, h17, h15, h14]
            case measure => simp [intOf]; omega
    · obtain rfl : k = n := by omega
      have HX := Lib.hid (show X = 0 by rw [HP.out k (Nat.le_refl _) hno, Nat.sub_self]; rfl)
      clear hno
      go_wp2
      go_ret
      exact ⟨rC_int (by rw [HX.out]; rfl), rfl⟩
end Go.Proofs.Ytclblidfamabdaa
