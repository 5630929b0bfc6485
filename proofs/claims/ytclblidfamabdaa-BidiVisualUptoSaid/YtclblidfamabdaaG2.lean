/- A slice that is collected in a variable in memory, by a loop over an iterator. -/
import Derived.Test.YtclblidfamabdaaG1
import Derived.Deep.AppendLies
import Derived.Deep.QuietTactic
import Derived.BigQuiet
import Derived.Handy
import Derived.IntWalk
import Derived.Lib.SliceRun
import Derived.Deep.DeepCutAuto
set_option linter.unusedVariables false
namespace Go.Proofs.Ytclblidfamabdaa
open Go.RowKit Go.Lib

theorem ownsRow_base {w : World} {b b' : Nat} {e : TypeId} {size n : Nat} {v : Value} {xs : List Value} (h : w.ownsRow b e size v n xs) (hb : b' ≤ b) : w.ownsRow b' e size v n xs := by
  obtain ⟨h1, h2⟩ := h
  refine ⟨h1, ?_⟩
  rcases h2 with h2 | ⟨g, cap, cur, hv, hg, r⟩
  · exact .inl h2
  · exact .inr ⟨g, cap, cur, hv, Nat.le_trans hb hg, r⟩
theorem ownsRow_fr {S : Nat → Prop} {A B : World} {b : Nat} {e : TypeId} {size n : Nat} {v : Value} {xs : List Value} (h : A.ownsRow b e size v n xs) (hf : Fr S A B) (hs : ∀ k, b ≤ k → S k) : B.ownsRow b e size v n xs := by
  obtain ⟨h1, h2⟩ := h
  refine ⟨h1, ?_⟩
  rcases h2 with h2 | ⟨g, cap, cur, hv, hg, hh, r⟩
  · exact .inl h2
  · exact .inr ⟨g, cap, cur, hv, hg, (hf.block g (Array.getElem?_eq_some_iff.1 hh).1 (hs g hg)).trans hh, r⟩
theorem own_below {w w1 : World} {b : Nat} {e : TypeId} {size n : Nat} {v : Value} {xs : List Value} (h : w.ownsRow b e size v n xs) (hb : Below w.heap.size w w1) : w1.ownsRow b e size v n xs :=
  h.kept (row := none) ⟨hb.os, hb.tape, hb.output, hb.size, fun i hi _ => hb.block i hi⟩ (by cases v.ownBlock <;> simp)
/-- A new block's cells, a second new block behind it. -/
theorem cell_new2 (W : World) (cs : Array Value) (t : TypeId) (o : Obj) (j : Nat) (v : Value) (h : cs[j]? = some v) : ((W.alloc (.cells cs t)).alloc o).cell? ⟨W.heap.size, j, none⟩ = some v := by
  rw [World.cell?_of_block (w := W.alloc (.cells cs t)) (Below.heap_alloc _ o _ (by simp))]
  have hh := World.alloc_heap_new W (.cells cs t)
  simp only [World.cell?, hh, h]; simp
theorem news2 (W : World) (o : Obj) (cs : Array Value) (t : TypeId) : ∀ j u, cs.toList[j]? = some u → ((W.alloc o).alloc (.cells cs t)).cell? ((⟨W.heap.size + 1, 0, none⟩ : Addr).add j) = some u := by
  have := World.news_of_block (World.alloc_heap_new (W.alloc o) (.cells cs t))
  rwa [World.size_alloc] at this
theorem heap_setCell_same {W : World} {B : Nat} {t : TypeId} {v : Value} (h : W.heap[B]? = some (.cells #[v] t (0, 0))) (u : Value) : (W.setCell ⟨B, 0, none⟩ u).heap[B]? = some (.cells #[u] t (0, 0)) :=
  (show Boxed W B t v from h).set u

/-- At a round's begin: the loop's variable lies in a new block; what lay there lies there. -/
theorem rx_new {W W3 : World} {lx : Nat} {cs : Array Value} {t : TypeId} (hf : Fr (fun k => k ≠ lx) (W.alloc (.cells cs t)) W3) (hne : lx < W.heap.size) : W3.heap[W.heap.size]? = some (.cells cs t (0, 0)) :=
  (hf.block W.heap.size (by simp) (by omega)).trans (World.alloc_heap_new W _)
theorem rx_old {W W3 : World} {lx k : Nat} {X o : Obj} (hf : Fr (fun k => k ≠ lx) (W.alloc X) W3) (h : W.heap[k]? = some o) (hne : k ≠ lx) : W3.heap[k]? = some o := by
  have hlt := (Array.getElem?_eq_some_iff.1 h).1
  exact (hf.block k (by simp; omega) hne).trans ((Below.heap_alloc W X k hlt).trans h)
theorem rx_below {w W W3 : World} {lx n : Nat} {X : Obj} (hf : Fr (fun k => k ≠ lx) (W.alloc X) W3) (hB : Below n w W) (hn : n ≤ W.heap.size) (hl : n ≤ lx) : Below n w W3 :=
  (hB.alloc hn _).trans (hf.toBelow (fun k hk => by omega) (by simp; omega))
/-- The variable at block b0 holds a slice of the call's own, of these cells. -/
def Coll (w : World) (b0 : Nat) (tS e : TypeId) (size base n : Nat) (cells : List Value) (W : World) : Prop :=
  Below w.heap.size w W ∧ ∃ v, W.heap[b0]? = some (.cells #[v] tS (0, 0)) ∧ W.ownsRow base e size v n cells

theorem Coll.fr {w : World} {b0 : Nat} {tS e : TypeId} {size base n : Nat} {cells : List Value} {lo hi : Nat} {A B : World} (h : Coll w b0 tS e size base n cells A)
    (h0 : b0 < lo) (hw : w.heap.size ≤ lo) (hA : w.heap.size ≤ A.heap.size) (hb : hi ≤ base) (hf : Fr (fun k => k < lo ∨ hi ≤ k) A B) : Coll w b0 tS e size base n cells B := by
  obtain ⟨h1, v, h2, h3⟩ := h
  exact ⟨h1.trans (hf.toBelow (fun k hk => .inl (by omega)) hA), v, (hf.block b0 (Array.getElem?_eq_some_iff.1 h2).1 (.inl h0)).trans h2, ownsRow_fr h3 hf (fun k hk => .inr (by omega))⟩

theorem Coll.size {w : World} {b0 : Nat} {tS e : TypeId} {size base n : Nat} {cells : List Value} {A : World} (h : Coll w b0 tS e size base n cells A) : w.heap.size ≤ A.heap.size := h.1.size

/-- Behind 'out = append(out, x)': what was appended lay in a new block. -/
theorem Coll.append {w : World} {b0 : Nat} {tS e : TypeId} {size base n m : Nat} {cells news : List Value} {W W0 w1 : World} {v v' : Value} {S : Nat → Prop}
    (hB : Below w.heap.size w W) (hv : W.heap[b0]? = some (.cells #[v] tS (0, 0))) (hrow : W.ownsRow base e size v n cells) (hwb : w.heap.size ≤ b0) (hbb : b0 < base)
    (hf0 : Fr S W W0) (hb0 : Below W.heap.size W W0) (hown : w1.ownsRow base e size v' m news) (hg : W0.grownBy w1 v.ownBlock) (hS : ∀ k, S k → k < base ∧ k ≠ b0) :
    Coll w b0 tS e size base m news (w1.setCell ⟨b0, 0, none⟩ v') ∧ Fr S W (w1.setCell ⟨b0, 0, none⟩ v') ∧ w1.heap[b0]? = some (.cells #[v] tS (0, 0)) := by
  have hlt := (Array.getElem?_eq_some_iff.1 hv).1
  have hrb : ∀ r, v.ownBlock = some r → base ≤ r := fun r e => (hrow.lt r e).1
  have hv1 : w1.heap[b0]? = some (.cells #[v] tS (0, 0)) := by
    refine (hg.block b0 (Nat.lt_of_lt_of_le hlt hb0.size) (fun e => ?_)).trans ((hb0.block b0 hlt).trans hv)
    have := hrb b0 e.symm
    omega
  have h1 : Fr S W w1 := hf0.grown hg (fun r e hr hs => by have := hrb r e; have := (hS r hs).1; omega)
  refine ⟨⟨?_, v', heap_setCell_same hv1 v', ?_⟩, h1.setCell _ _ (fun _ hs => (hS _ hs).2 rfl), hv1⟩
  · have := hB.size
    exact ((hB.trans ((hb0.mono hB.size).grown hg (Nat.le_trans hB.size hb0.size) (fun k e => by have := hrb k e; omega)))).setCell (p := ⟨b0, 0, none⟩) hwb _
  · refine hown.kept (grownBy_setCell' w1 b0 v') ?_
    rcases hown.2 with ⟨rfl, _⟩ | ⟨g, cap, cur, rfl, hgb, _⟩
    · exact .inl rfl
    · refine .inr fun e => ?_
      have : g = b0 := by simpa [Value.ownBlock] using e
      omega
end Go.Proofs.Ytclblidfamabdaa

/- Rows of numbers: read, owned, written. -/
set_option linter.unusedVariables false
set_option linter.unusedSimpArgs false
namespace Go.Proofs.Ytclblidfamabdaa
open Go.RowKit Go.Shelf Go.Lib Go.BigFrame
attribute [local go_sem] Oper.semAt_some

theorem Try.infoIn : (Try.prog.info? 3).map (fun i => (i.zero, i.size, i.bytes)) = some (some (.int .i64 0), 1, 8) := by kernel_rfl
/-- A number, turned at one place. -/
def upd (c : Nat → Int) (k : Nat) (x : Int) : Nat → Int := fun j => if j = k then x else c j
theorem upd_at (c : Nat → Int) (k : Nat) (x : Int) : upd c k x k = x := if_pos rfl
theorem upd_ne (c : Nat → Int) {k j : Nat} (x : Int) (h : j ≠ k) : upd c k x j = c j := if_neg h
/-- The first n numbers as cells. -/
def ns (c : Nat → Int) (n : Nat) : List Value := (List.range n).map fun j => .int .i64 (c j)
theorem ns_length (c : Nat → Int) (n : Nat) : (ns c n).length = n := by simp [ns]
theorem ns_succ (c : Nat → Int) (n : Nat) : ns c (n + 1) = ns c n ++ [.int .i64 (c n)] := by simp [ns, List.range_succ]
theorem ns_at (c : Nat → Int) {n j : Nat} (h : j < n) : (ns c n)[j]? = some (.int .i64 (c j)) := by simp [ns, h]
theorem ns_congr {c d : Nat → Int} {n : Nat} (h : ∀ j, j < n → c j = d j) : ns c n = ns d n := by
  unfold ns
  exact List.map_congr_left (fun j hj => by rw [h j (List.mem_range.1 hj)])
theorem ns_take (c : Nat → Int) {n m : Nat} (h : m ≤ n) : (ns c n).take m = ns c m := by
  unfold ns
  rw [← List.map_take, List.take_range, Nat.min_eq_left h]

/-- A row that may be written: what its first n cells hold. -/
def Rw (w : World) (g : Nat) (c : Nat → Int) (n : Nat) : Prop := ∃ cur, w.heap[g]? = some (.cells cur 3 (0, 0)) ∧ n ≤ cur.size ∧ ∀ j, j < n → cur[j]? = some (.int .i64 (c j))
theorem Rw.lt {w : World} {g : Nat} {c : Nat → Int} {n : Nat} (h : Rw w g c n) : g < w.heap.size := by obtain ⟨cur, h1, _⟩ := h; exact (Array.getElem?_eq_some_iff.1 h1).1
theorem Rw.at {w : World} {g : Nat} {c : Nat → Int} {n j : Nat} (h : Rw w g c n) (hj : j < n) : w.cell? ⟨g, j, none⟩ = some (.int .i64 (c j)) ∧ w.frozen? ⟨g, j, none⟩ = false := by
  obtain ⟨cur, h1, h2, h3⟩ := h
  constructor
  · simp only [World.cell?, h1]
    simp only [h3 j hj]
    rfl
  · simp [World.frozen?, h1]
theorem Rw.set {w : World} {g : Nat} {c : Nat → Int} {n : Nat} (h : Rw w g c n) (k : Nat) (x : Int) : Rw (w.setCell ⟨g, k, none⟩ (.int .i64 x)) g (upd c k x) n := by
  obtain ⟨cur, h1, h2, h3⟩ := h
  refine ⟨cur.setIfInBounds k (.int .i64 x), ?_, by simpa using h2, fun j hj => ?_⟩
  · show (w.heap.modify g _)[g]? = _
    rw [Array.getElem?_modify, if_pos rfl, h1]
    rfl
  · rw [Array.getElem?_setIfInBounds]
    by_cases e : k = j
    · subst e; rw [if_pos rfl, if_pos (by omega), upd_at]
    · rw [if_neg e, upd_ne _ _ (Ne.symm e)]; exact h3 j hj
theorem Rw.fr {S : Nat → Prop} {w w' : World} {g : Nat} {c : Nat → Int} {n : Nat} (h : Rw w g c n) (hf : Fr S w w') (hS : S g) : Rw w' g c n := by
  have hl := h.lt
  obtain ⟨cur, h1, h2, h3⟩ := h
  exact ⟨cur, (hf.block g hl hS).trans h1, h2, h3⟩
theorem Rw.congr {w : World} {g : Nat} {c d : Nat → Int} {n : Nat} (h : Rw w g c n) (e : ∀ j, j < n → c j = d j) : Rw w g d n := by
  obtain ⟨cur, h1, h2, h3⟩ := h
  exact ⟨cur, h1, h2, fun j hj => by rw [← e j hj]; exact h3 j hj⟩
theorem Rw.other {w : World} {g q k : Nat} {c : Nat → Int} {n : Nat} {v : Value} (h : Rw w g c n) (hq : g ≠ q) : Rw (w.setCell ⟨q, k, none⟩ v) g c n :=
  h.fr (S := fun i => i ≠ q) ((Fr.refl _ _).setCell _ _ (fun _ hh => hh rfl)) hq

/-- What a slice of numbers reads. -/
def Rd (w : World) (v : Value) (c : Nat → Int) (n : Nat) : Prop := ∃ A cap, v = .slice A n cap ∧ n ≤ cap ∧ (0 < n → ∃ g o, A = some ⟨g, o, none⟩ ∧ ∀ j, j < n → w.cell? ⟨g, o + j, none⟩ = some (.int .i64 (c j)))
theorem Rd.fr {S : Nat → Prop} {w w' : World} {v : Value} {c : Nat → Int} {n : Nat} (h : Rd w v c n) (hf : Fr S w w') (hS : ∀ q, v.ownBlock = some q → q < w.heap.size → S q) : Rd w' v c n := by
  obtain ⟨A, cap, rfl, hle, h1⟩ := h
  refine ⟨A, cap, rfl, hle, fun hn => ?_⟩
  obtain ⟨g, o, rfl, hc⟩ := h1 hn
  refine ⟨g, o, rfl, fun j hj => hf.cell (hc j hj) (hS g rfl (World.block_lt_of_cell? _ _ (hc j hj)))⟩
theorem Rd.below {w w' : World} {v : Value} {c : Nat → Int} {n : Nat} (h : Rd w v c n) (hb : Below w.heap.size w w') : Rd w' v c n :=
  h.fr (Fr.of_below (S := fun k => k < w.heap.size) hb (fun k _ h => h)) (fun _ _ h => h)
theorem Rd.congr {w : World} {v : Value} {c d : Nat → Int} {n : Nat} (h : Rd w v c n) (e : ∀ j, j < n → c j = d j) : Rd w v d n := by
  obtain ⟨A, cap, rfl, hle, h1⟩ := h
  refine ⟨A, cap, rfl, hle, fun hn => ?_⟩
  obtain ⟨g, o, rfl, hc⟩ := h1 hn
  exact ⟨g, o, rfl, fun j hj => by rw [← e j hj]; exact hc j hj⟩
theorem Rw.rd {w : World} {g : Nat} {c : Nat → Int} {n : Nat} (h : Rw w g c n) (cap : Nat) (hc : n ≤ cap) : Rd w (.slice (some ⟨g, 0, none⟩) n cap) c n :=
  ⟨_, cap, rfl, hc, fun _ => ⟨g, 0, rfl, fun j hj => by rw [Nat.zero_add]; exact (h.at hj).1⟩⟩
theorem row_rw {w : World} {base g n cap : Nat} {c : Nat → Int} (h : w.ownsRow base 3 1 (.slice (some ⟨g, 0, none⟩) n cap) n (ns c n)) : Rw w g c n := by
  rcases h.2 with ⟨h1, _⟩ | ⟨g', cap', cur, h1, h2, h3, h4, h5, h6, h7⟩
  · cases h1
  · cases h1
    refine ⟨cur, h3, by omega, fun j hj => ?_⟩
    have h8 := ns_at c hj
    rw [← h7, Nat.mul_one, List.getElem?_take, if_pos hj] at h8
    simpa using h8
theorem row_rd {w : World} {base n : Nat} {v : Value} {c : Nat → Int} (h : w.ownsRow base 3 1 v n (ns c n)) : Rd w v c n := by
  rcases h.2 with ⟨rfl, rfl⟩ | ⟨g, cap, cur, rfl, h2, h3, h4, h5, h6, h7⟩
  · exact ⟨none, 0, rfl, Nat.le_refl _, fun h => absurd h (by omega)⟩
  · exact (row_rw h).rd cap h4
theorem Rd.form {w : World} {v : Value} {c : Nat → Int} {n : Nat} (h : Rd w v c n) : ∃ A cap, v = .slice A n cap ∧ n ≤ cap ∧ (0 < n → ∃ g o, A = some ⟨g, o, none⟩ ∧ ∀ j, j < n → w.cell? ⟨g, o + j, none⟩ = some (.int .i64 (c j))) := h
/-- 'make([]int, n)'. -/
theorem make_rw (W : World) (n : Nat) : Rw (W.alloc (.cells (madeCells (Value.int .i64 0).cells n) 3)) W.heap.size (fun _ => 0) n :=
  ⟨_, World.alloc_heap_new W _, by simp [size_madeCells], fun j hj => by simp [madeCells, Value.cells, hj, Nat.mod_one]⟩

/-! ### The side of a row, the items of a row -/
def stI (x : Nat) : Int := if x = 0 then -1 else if x = 17 then 0 else 1
set_option maxRecDepth 1000000 in
theorem strong_any (rv cv : Value) (it c : Nat → Nat) (n N : Nat) (w : World) (hn : n ≤ 4194304) (hN : N ≤ 4194304) (hr : Rd w rv (fun j => (it j : Int)) n) (hc : Rd w cv (fun j => (c j : Int)) N) (hit : ∀ j, j < n → it j < N) :
    Calls Try.prog 42 #[rv, cv] w fun e w' => e = .returned (.int .i64 (stI (B.stgF c it n 0))) ∧ w = w' := by
  obtain ⟨RA, rc, rfl, hrl, hr1⟩ := hr
  obtain ⟨CA, cc, rfl, hcl, hc1⟩ := hc
  have HP : Hid (∀ k, k ≤ n → (∀ j, j < k → B.S3 (c (it j)) = false) → B.stgF c it n 0 = B.stgF c it (n - k) k) := Lib.hid (fun k => by
    induction k with
    | zero => intro _ _; rfl
    | succ k ih =>
      intro hk h
      rw [ih (by omega) (fun j hj => h j (by omega))]
      obtain ⟨m, hm⟩ : ∃ m, n - k = m + 1 := ⟨n - k - 1, by omega⟩
      rw [hm, show n - (k + 1) = m by omega]
      rw [show B.stgF c it (m + 1) k = if B.S3 (c (it k)) then c (it k) else B.stgF c it m (k + 1) from rfl, h k (by omega)]
      rfl)
  obtain ⟨X, hX⟩ : ∃ X, B.stgF c it n 0 = X := ⟨_, rfl⟩
  rw [hX] at HP ⊢
  have HC := Lib.hid hc1
  have HR := Lib.hid hr1
  have HIT := Lib.hid hit
  clear hX hc1 hr1 hit
  go_enter Try.func42, Try.ntmps42
  go_wp2
  go_loop [9] (fun i => ∃ k : Nat, i = .int .i64 (k : Int) ∧ k ≤ n ∧ ∀ j, j < k → B.S3 (c (it j)) = false) (fun i => n - (RowKit.intOf i).toNat)
  case atStart => exact ⟨0, rfl, Nat.zero_le _, fun j h => absurd h (Nat.not_lt_zero _)⟩
  case round =>
    obtain ⟨k, rfl, hk, hno⟩ := hrel
    by_cases hlt : k < n
    · obtain ⟨rg, ro, rfl, hrc⟩ := HR.out (by omega)
      have hik := HIT.out k hlt
      obtain ⟨cg, co, rfl, hcc⟩ := HC.out (by omega)
      have r0 := hrc k hlt
      have c0 := hcc _ hik
      have HX : Hid (X = if B.S3 (c (it k)) then c (it k) else B.stgF c it (n - (k + 1)) (k + 1)) := Lib.hid (by
        rw [HP.out k hk hno]
        obtain ⟨m, hm⟩ : ∃ m, n - k = m + 1 := ⟨n - k - 1, by omega⟩
        rw [hm, show n - (k + 1) = m by omega]; rfl)
      obtain ⟨q, hq⟩ : ∃ q, it k = q := ⟨_, rfl⟩
      rw [hq] at r0 c0 hik HX
      obtain ⟨x, hx⟩ : ∃ x, c q = x := ⟨_, rfl⟩
      rw [hx] at c0 HX
      have HNO := Lib.hid hno
      have HS := Lib.hid (show c (it k) = x by rw [hq, hx])
      clear hrc hcc hno hq hx
      by_cases h17 : x = 17
      · subst h17
        go_wp2
        go_ret
        exact ⟨rC_int (by rw [HX.out]; rfl), rfl⟩
      · by_cases h15 : x = 15
        · subst h15
          go_wp2
          go_ret
          exact ⟨rC_int (by rw [HX.out]; rfl), rfl⟩
        · by_cases h14 : x = 14
          · subst h14
            go_wp2
            go_ret
            exact ⟨rC_int (by rw [HX.out]; rfl), rfl⟩
          · have b1 : ((x : Int) == 17) = false := by simp; omega
            have b2 : ((x : Int) == 15) = false := by simp; omega
            have b3 : ((x : Int) == 14) = false := by simp; omega
            go_wp2
            go_round
            case rel =>
              refine ⟨k + 1, by go_num, hlt, fun j hj => ?_⟩
              rcases Nat.lt_or_ge j k with h | h
              · exact HNO.out j h
              · obtain rfl : j = k := by omega
                rw [HS.out]; simp [B.S3, h17, h15, h14]
            case measure => simp [RowKit.intOf]; omega
    · obtain rfl : k = n := by omega
      have HX := Lib.hid (show X = 0 by rw [HP.out k (Nat.le_refl _) hno, Nat.sub_self]; rfl)
      clear hno
      go_wp2
      go_ret
      exact ⟨rC_int (by rw [HX.out]; rfl), rfl⟩
end Go.Proofs.Ytclblidfamabdaa

/- bidi.row: the items of a row. -/
set_option linter.unusedVariables false
set_option linter.unusedSimpArgs false
namespace Go.Proofs.Ytclblidfamabdaa
open Go.RowKit Go.Shelf Go.Lib Go.BigFrame
attribute [local go_sem] Oper.semAt_some

/-- Where an isolate closes, as the program has it. -/
def clI (cl : Nat → Nat) (j : Nat) : Int := if cl j = 0 then -1 else (cl j : Int)
def itI (cl : Nat → Nat) (frm : Nat) (j : Nat) : Int := (B.itm cl frm j : Int)

set_option maxRecDepth 1000000 in
theorem row_any (frm tz N : Nat) (cv : Value) (cl : Nat → Nat) (w : World) (hN : N ≤ 4194304) (hto : tz ≤ N) (hfr : frm ≤ N) (hup : B.Up cl) (hcl : ∀ x, x < N → cl x ≤ N) (hc : Rd w cv (clI cl) N) :
    Calls Try.prog 43 #[.int .i64 (frm : Int), .int .i64 (tz : Int), cv] w fun e w' => ∃ v, e = .returned v ∧ Below w.heap.size w w' ∧ w'.ownsRow w.heap.size 3 1 v (B.cnt cl frm tz) (ns (itI cl frm) (B.cnt cl frm tz)) := by
  obtain ⟨i0, hi, hz0, hz1, hz2⟩ := info_parts Try.infoIn
  have hcnt := B.cnt_le hup frm tz
  have hsp := B.cnt_spec hup frm tz
  obtain ⟨cnt, hcn⟩ : ∃ c, B.cnt cl frm tz = c := ⟨_, rfl⟩
  rw [hcn] at hcnt hsp ⊢
  have HSP := Lib.hid hsp
  have HUP := Lib.hid hup
  have HCL := Lib.hid hcl
  have HC := Lib.hid hc
  obtain ⟨CA, cc, rfl, hcl2, hc1⟩ := hc
  have HC1 := Lib.hid hc1
  clear hsp hup hcl hc1 hcn
  go_enter Try.func43, Try.ntmps43
  go_wp2
  go_loopw [7, 8] (fun ov iv wr => ∃ m i : Nat, iv = .int .i64 (i : Int) ∧ i = B.itm cl frm m ∧ i ≤ N ∧ m ≤ cnt ∧ Below w.heap.size w wr ∧ wr.ownsRow w.heap.size 3 1 ov m (ns (itI cl frm) m)) (fun _ iv _ => tz - (RowKit.intOf iv).toNat)
  case atStart => exact ⟨0, frm, rfl, rfl, hfr, Nat.zero_le _, Below.refl _ _, World.ownsRow_nil _ _ _ _⟩
  case round =>
    obtain ⟨m, i, rfl, him, hiN, hm, hB, hrow⟩ := hrel
    by_cases hlt : i < tz
    · have hmc : m < cnt := (HSP.out m).2 (by rw [← him]; exact hlt)
      obtain ⟨cg, co, rfl, hcc⟩ := HC1.out (by omega)
      have hci := hcc i (by omega)
      have c0 : wr.cell? ⟨cg, co + i, none⟩ = some (.int .i64 (clI cl i)) := (World.cell?_of_block (hB.block _ (World.block_lt_of_cell? _ _ hci))).trans hci
      have hcg : cg < w.heap.size := World.block_lt_of_cell? _ _ hci
      have hBs := hB.size
      have hnx : B.itm cl frm (m + 1) = B.nx cl i := by rw [him]; rfl
      have hup := B.nx_lt HUP.out i
      have hcN := HCL.out i (by omega)
      have HX := Lib.hid (And.intro him (And.intro hnx (And.intro hB hrow)))
      have hns : ns (itI cl frm) (m + 1) = ns (itI cl frm) m ++ [.int .i64 (i : Int)] := by rw [ns_succ, him]; rfl
      have HNS := Lib.hid hns
      have hlen := ns_length (itI cl frm) m
      clear him hnx hB hcc hci hns hlen
      have K : Hid (∀ w2, (wr.alloc (.cells #[.int .i64 (i : Int)] 3)).grownBy w2 u7.ownBlock → w2.cell? ⟨cg, co + i, none⟩ = some (.int .i64 (clI cl i)) ∧ Below w.heap.size w w2) := Lib.hid (fun w2 hg => by
        refine ⟨(World.cell?_of_block (hg.block _ (by simp; omega) (fun e => by have := (hrow.lt cg e.symm).1; omega))).trans ((World.cell?_of_block (Below.heap_alloc wr _ cg (by omega))).trans c0), ?_⟩
        exact (HX.out.2.2.1.alloc hBs _).grown hg (by simp; omega) (fun q e => (hrow.lt q e).1))
      by_cases hz : cl i = 0
      · have e1 : clI cl i = -1 := if_pos hz
        have e2 : B.nx cl i = i + 1 := if_pos hz
        rw [e1] at K c0
        have HE := Lib.hid e2
        clear e1 e2 hz c0
        go_wp2_with (at_builtin; go_must (refine wpList_append_own_at _ rfl _ _ 29 rfl w.heap.size 3 i0 _ 1 8 Try.underlying29 hi hz0 hz1 hz2 rfl (by decide) _ _ _ rfl (hrow.alloc _) ⟨wr.heap.size, 0, none⟩ 1 1 [.int .i64 (i : Int)] rfl rfl (World.news_of_block (World.alloc_heap_new wr _)) (by simp [Value.oneCell']) (by unfold maxLen; omega) (by omega) (by simp; omega) ?_); intro v' w2 hown hg _ _; obtain ⟨k0, k1⟩ := K.out _ hg; have HK := Lib.hid k1; clear k1)
        go_roundw
        case rel => exact ⟨m + 1, i + 1, by go_num, by rw [HX.out.2.1, HE.out], by omega, hmc, HK.out, by rw [HNS.out]; exact hown⟩
        case measure => simp [RowKit.intOf]; omega
      · obtain ⟨q, hq⟩ : ∃ q, cl i = q := ⟨_, rfl⟩
        have e1 : clI cl i = (q : Int) := by unfold clI; rw [if_neg hz, hq]
        have e2 : B.nx cl i = q := by unfold B.nx; rw [if_neg hz, hq]
        rw [e1] at K c0
        rw [hq] at hcN hz
        have hiq := HUP.out i (by rw [hq]; exact hz)
        rw [hq] at hiq
        rw [e2] at hup
        have HE := Lib.hid e2
        have hq1 : 1 ≤ q := by omega
        clear e1 e2 hq c0
        go_wp2_with (at_builtin; go_must (refine wpList_append_own_at _ rfl _ _ 29 rfl w.heap.size 3 i0 _ 1 8 Try.underlying29 hi hz0 hz1 hz2 rfl (by decide) _ _ _ rfl (hrow.alloc _) ⟨wr.heap.size, 0, none⟩ 1 1 [.int .i64 (i : Int)] rfl rfl (World.news_of_block (World.alloc_heap_new wr _)) (by simp [Value.oneCell']) (by unfold maxLen; omega) (by omega) (by simp; omega) ?_); intro v' w2 hown hg _ _; obtain ⟨k0, k1⟩ := K.out _ hg; have HK := Lib.hid k1; clear k1)
        go_roundw
        case rel => exact ⟨m + 1, q, by go_num, by rw [HX.out.2.1, HE.out], hcN, hmc, HK.out, by rw [HNS.out]; exact hown⟩
        case measure => simp [RowKit.intOf]; omega
    · have hmc : m = cnt := by
        rcases Nat.lt_or_ge m cnt with h | h
        · have := (HSP.out m).1 h; omega
        · omega
      subst hmc
      clear him
      go_wp2
      go_ret
      exact ⟨_, rfl, hB, hrow⟩
end Go.Proofs.Ytclblidfamabdaa

/- slices.Clone of numbers; parts of rows. -/
set_option linter.unusedVariables false
set_option linter.unusedSimpArgs false
namespace Go.Proofs.Ytclblidfamabdaa
open Go.RowKit Go.Shelf Go.Lib Go.BigFrame
attribute [local go_sem] Oper.semAt_some

theorem eql_slice_nil (w : World) (a : Option Addr) (l c : Nat) : (binOp .eql 29 (.slice a l c) (.slice none 0 0)).run Try.prog w = .ok (.bool a.isNone) w :=
  Lib.run_eql_slice_nil (P := Try.prog) w 29 3 a l c 0 0 Try.underlying29
theorem own_empty (W : World) (b : Nat) (hb : b ≤ W.heap.size) : (W.alloc (.cells #[] 3)).ownsRow b 3 1 (.slice (some ⟨W.heap.size, 0, none⟩) 0 0) 0 [] :=
  ⟨by simp, .inr ⟨W.heap.size, 0, _, rfl, hb, World.alloc_heap_new W _, Nat.zero_le _, by simp only [maxLen]; omega, by simp, by simp⟩⟩
set_option maxRecDepth 1000000 in
theorem clone_nil (w : World) : Calls Try.prog 33 #[.slice none 0 0] w fun e w' => e = .returned (.slice none 0 0) ∧ w = w' := by
  have he := eql_slice_nil w none 0 0
  go_enter Try.func33, Try.ntmps33
  go_wp2
  go_ret
  exact ⟨rfl, rfl⟩
set_option maxRecDepth 1000000 in
theorem clone_some (g o n cap : Nat) (c : Nat → Int) (w : World) (hn : n ≤ 4194304) (hc : ∀ j, j < n → w.cell? ⟨g, o + j, none⟩ = some (.int .i64 (c j))) :
    Calls Try.prog 33 #[.slice (some ⟨g, o, none⟩) n cap] w fun e w' => ∃ v, e = .returned v ∧ Below w.heap.size w w' ∧ w'.ownsRow w.heap.size 3 1 v n (ns c n) := by
  obtain ⟨i0, hi, hz0, hz1, hz2⟩ := info_parts Try.infoIn
  have hnews : ∀ (W : World), Below w.heap.size w W → ∀ (j : Nat) (u : Value), (ns c n)[j]? = some u → W.cell? ((⟨g, o, none⟩ : Addr).add j) = some u := fun W hW j u hu => by
    have hj : j < n := by have := (List.getElem?_eq_some_iff.1 hu).1; rwa [ns_length] at this
    rw [ns_at c hj] at hu
    cases hu
    rw [Go.WideShapes.add_plain]
    exact (World.cell?_of_block (hW.block _ (World.block_lt_of_cell? _ _ (hc j hj)))).trans (hc j hj)
  have HN := Lib.hid hnews
  have hone : ∀ u ∈ ns c n, u.oneCell' = true := by intro u hu; simp [ns] at hu; obtain ⟨_, _, rfl⟩ := hu; rfl
  have hlen := ns_length c n
  obtain ⟨L, hL⟩ : ∃ L, ns c n = L := ⟨_, rfl⟩
  rw [hL] at hone hlen HN ⊢
  have HLen := Lib.hid (show L.length = n * 1 by rw [hlen, Nat.mul_one])
  have he := eql_slice_nil w (some ⟨g, o, none⟩) n cap
  clear hc hnews hL hlen
  go_enter Try.func33, Try.ntmps33
  go_wp2_with (at_builtin; go_must (refine wpList_append_own _ rfl _ _ 29 rfl w.heap.size 3 i0 _ 1 8 Try.underlying29 hi hz0 hz1 hz2 rfl (by decide) _ _ _ rfl (own_empty w _ (Nat.le_refl _)) ⟨g, o, none⟩ n cap L rfl HLen.out (HN.out _ ((Below.refl _ _).alloc (Nat.le_refl _) _)) hone (by unfold maxLen; omega) (by omega) (by simp) ?_); intro v' w2 hown hg _; rw [Nat.zero_add, List.nil_append] at hown)
  go_ret
  exact ⟨_, rfl, ((Below.refl _ _).alloc (Nat.le_refl _) _).grown hg (by simp) (fun q e => by have := Option.some.inj e; simp at this; omega), hown⟩
end Go.Proofs.Ytclblidfamabdaa

/- bidi.match: isolates and where they close. -/
set_option linter.unusedVariables false
set_option linter.unusedSimpArgs false
namespace Go.Proofs.Ytclblidfamabdaa
open Go.RowKit Go.Shelf Go.Lib Go.BigFrame
attribute [local go_sem] Oper.semAt_some

theorem Rw.grown {w w' : World} {g : Nat} {c : Nat → Int} {n : Nat} {row : Option Nat} (h : Rw w g c n) (hg : w.grownBy w' row) (hne : row ≠ some g) : Rw w' g c n := by
  have hl := h.lt
  obtain ⟨cur, h1, h2, h3⟩ := h
  exact ⟨cur, (hg.block g hl (fun e => hne e.symm)).trans h1, h2, h3⟩
theorem Rw.alloc {w : World} {g : Nat} {c : Nat → Int} {n : Nat} (h : Rw w g c n) (o : Obj) : Rw (w.alloc o) g c n :=
  h.fr (S := fun _ => True) ((Fr.refl _ _).alloc o) trivial
/-- A row made shorter. -/
theorem own_take {w : World} {b n m cap : Nat} {A : Option Addr} {c : Nat → Int} (h : w.ownsRow b 3 1 (.slice A n cap) n (ns c n)) (hm : m ≤ n) (hA : A ≠ none) : w.ownsRow b 3 1 (.slice A m cap) m (ns c m) := by
  refine ⟨by rw [ns_length]; omega, .inr ?_⟩
  rcases h.2 with ⟨h1, _⟩ | ⟨g, cap', cur, h1, h2, h3, h4, h5, h6, h7⟩
  · cases h1; exact absurd rfl hA
  · cases h1
    refine ⟨g, cap, cur, rfl, h2, h3, by omega, h5, h6, ?_⟩
    rw [← ns_take c hm, ← h7, List.take_take]
    congr 1; omega
theorem own_set {w : World} {b n : Nat} {v : Value} {xs : List Value} {q k : Nat} {u : Value} (h : w.ownsRow b 3 1 v n xs) (hq : q < b) : (w.setCell ⟨q, k, none⟩ u).ownsRow b 3 1 v n xs :=
  ownsRow_fr (S := fun i => i ≠ q) h ((Fr.refl _ _).setCell _ _ (fun _ hh => hh rfl)) (fun i hi => by show i ≠ q; omega)

/-- What the second loop of match knows. -/
structure Ma (w : World) (g gc n b0 : Nat) (m : B.M) (ov : Value) (wr : World) : Prop where
  fr : Fr (fun k => k ≠ g) w wr
  cl : Rw wr gc (clI m.cl) n
  l0 : 0 < n → Rw wr g (fun j => (m.ch j : Int)) n
  op : wr.ownsRow b0 3 1 ov m.h (ns (fun j => (m.st j : Int)) m.h)
  gc_ : gc < b0 ∧ w.heap.size ≤ gc ∧ b0 ≤ wr.heap.size
  g_ : 0 < n → g < w.heap.size
theorem size_setCell (w : World) (a : Addr) (v : Value) : (w.setCell a v).heap.size = w.heap.size := by simp [World.setCell]
theorem Ma.set0 {w : World} {g gc n b0 : Nat} {m : B.M} {ov : Value} {wr : World} (h : Ma w g gc n b0 m ov wr) (i pl : Nat) (hn : 0 < n) : Ma w g gc n b0 { m with pl := pl, ch := B.set m.ch i 16 } ov (wr.setCell ⟨g, i, none⟩ (.int .i64 16)) := by
  have h1 := h.g_ hn
  have h2 := h.gc_
  refine ⟨h.fr.setCell _ _ (fun _ hh => hh rfl), h.cl.other (by omega), fun _ => ((h.l0 hn).set i 16).congr (fun j _ => ?_), own_set h.op (by omega), by rw [size_setCell]; exact h.gc_, h.g_⟩
  unfold upd
  show _ = ((B.set m.ch i 16 j : Nat) : Int)
  unfold B.set
  split <;> rfl
theorem clI_set (cl : Nat → Nat) (i e : Nat) (he : e ≠ 0) (j : Nat) : upd (clI cl) i (e : Int) j = clI (B.set cl i e) j := by
  unfold upd clI B.set
  by_cases h : j = i
  · rw [if_pos h, if_pos h, if_neg he]
  · rw [if_neg h, if_neg h]
theorem Ma.push {w : World} {g gc n b0 : Nat} {m : B.M} {ov v' : Value} {wr w2 : World} (h : Ma w g gc n b0 m ov wr) (i e : Nat) (hn : 0 < n) (he : e ≠ 0) (o : Obj) (hg : (wr.alloc o).grownBy w2 ov.ownBlock) (hown : w2.ownsRow b0 3 1 v' (m.h + 1) (ns (fun j => (m.st j : Int)) m.h ++ [.int .i64 (i : Int)])) :
    Ma w g gc n b0 { m with cl := B.set m.cl i e, st := B.set m.st m.h i, h := m.h + 1 } v' (w2.setCell ⟨gc, i, none⟩ (.int .i64 (e : Int))) ∧ Rw w2 gc (clI m.cl) n := by
  have h2 := h.gc_
  have hlt := h.op.lt
  have hcl2 : Rw w2 gc (clI m.cl) n := (h.cl.alloc o).grown hg (fun e => by have := (hlt gc e).1; omega)
  have hs := hg.size
  simp only [World.size_alloc] at hs
  have h1 := h.g_ hn
  refine ⟨⟨((h.fr.alloc o).grown hg (fun q e hq => by have := (hlt q e).1; omega)).setCell _ _ (fun hl => absurd hl (by show ¬ gc < w.heap.size; omega)), (hcl2.set i (e : Int)).congr (fun j _ => clI_set m.cl i e he j), fun _ => (((h.l0 hn).alloc o).grown hg (fun e => by have := (hlt g e).1; omega)).other (by omega), own_set ?_ h2.1, ⟨h2.1, h2.2.1, by rw [size_setCell]; omega⟩, h.g_⟩, hcl2⟩
  show w2.ownsRow b0 3 1 v' (m.h + 1) (ns (fun j => (B.set m.st m.h i j : Int)) (m.h + 1))
  rw [ns_succ, show ((B.set m.st m.h i m.h : Nat) : Int) = (i : Int) by rw [B.set_at], ns_congr (d := fun j => (m.st j : Int)) (fun j hj => by rw [B.set_ne _ _ (by omega)])]
  exact hown
theorem Ma.pop {w : World} {g gc n b0 : Nat} {m : B.M} {A : Option Addr} {cap : Nat} {wr : World} (h : Ma w g gc n b0 m (.slice A m.h cap) wr) (i : Nat) (hi : i ≠ 0) (hn : 0 < n) (hh : 0 < m.h) : Ma w g gc n b0 { m with cl := B.set m.cl (m.st (m.h - 1)) i, h := m.h - 1 } (.slice A (m.h - 1) cap) (wr.setCell ⟨gc, m.st (m.h - 1), none⟩ (.int .i64 (i : Int))) := by
  have h2 := h.gc_
  have h1 := h.g_ hn
  have hA : A ≠ none := fun e => by
    subst e
    rcases h.op.2 with ⟨_, h0⟩ | ⟨g', _, _, h1, _⟩
    · omega
    · cases h1
  exact ⟨h.fr.setCell _ _ (fun hl => absurd hl (by show ¬ gc < w.heap.size; omega)), (h.cl.set _ (i : Int)).congr (fun j _ => clI_set m.cl _ i hi j), fun hn => (h.l0 hn).other (by omega), own_set (own_take h.op (Nat.sub_le _ _) hA) h2.1, ⟨h2.1, h2.2.1, by rw [size_setCell]; exact h2.2.2⟩, h.g_⟩

theorem ownN_form {w : World} {base : Nat} {e : TypeId} {sz n : Nat} {v : Value} {xs : List Value} (h : w.ownsRow base e sz v n xs) : ∃ A c, v = .slice A n c ∧ n ≤ c ∧ (0 < n → ∃ g, A = some ⟨g, 0, none⟩) := by
  rcases h.2 with ⟨rfl, rfl⟩ | ⟨g, cap, cur, rfl, _, _, h4, _⟩
  · exact ⟨none, 0, rfl, Nat.le_refl _, fun h => absurd h (by omega)⟩
  · exact ⟨_, cap, rfl, h4, fun _ => ⟨g, rfl⟩⟩
theorem ms_full {c : Nat → Nat} {e i : Nat} {q : B.M} (h1 : B.isOp (c i) = true) (h2 : q.h = 60) : B.mstep c e q i = { q with pl := q.pl + 1, ch := B.set q.ch i 16 } := by unfold B.mstep; rw [if_pos h1, if_pos h2]
theorem ms_push {c : Nat → Nat} {e i : Nat} {q : B.M} (h1 : B.isOp (c i) = true) (h2 : q.h ≠ 60) : B.mstep c e q i = { q with cl := B.set q.cl i e, st := B.set q.st q.h i, h := q.h + 1 } := by unfold B.mstep; rw [if_pos h1, if_neg h2]
theorem ms_plain {c : Nat → Nat} {e i : Nat} {q : B.M} (h1 : c i = 12) (h2 : 0 < q.pl) : B.mstep c e q i = { q with pl := q.pl - 1, ch := B.set q.ch i 16 } := by
  unfold B.mstep; rw [if_neg (by rw [h1]; decide), if_pos h1, if_pos h2]
theorem ms_pop {c : Nat → Nat} {e i : Nat} {q : B.M} (h1 : c i = 12) (h2 : ¬ 0 < q.pl) (h3 : 0 < q.h) : B.mstep c e q i = { q with cl := B.set q.cl (q.st (q.h - 1)) i, h := q.h - 1 } := by
  unfold B.mstep; rw [if_neg (by rw [h1]; decide), if_pos h1, if_neg h2, if_pos h3]
theorem ms_none {c : Nat → Nat} {e i : Nat} {q : B.M} (h1 : c i = 12) (h2 : ¬ 0 < q.pl) (h3 : ¬ 0 < q.h) : B.mstep c e q i = { q with ch := B.set q.ch i 16 } := by
  unfold B.mstep; rw [if_neg (by rw [h1]; decide), if_pos h1, if_neg h2, if_neg h3]
theorem ms_other {c : Nat → Nat} {e i : Nat} {q : B.M} (h1 : B.isOp (c i) = false) (h2 : c i ≠ 12) : B.mstep c e q i = q := by
  unfold B.mstep; rw [if_neg (by simp [h1]), if_neg h2]

set_option maxRecDepth 1000000 in
set_option maxHeartbeats 8000000 in
theorem match_any (A : Option Addr) (g n cap : Nat) (c : Nat → Nat) (w : World) (hn : n ≤ 4194304) (hcap : n ≤ cap) (hA : 0 < n → A = some ⟨g, 0, none⟩ ∧ Rw w g (fun j => (c j : Int)) n) :
    Calls Try.prog 34 #[.slice A n cap] w fun e w' => ∃ gc, e = .returned (.slice (some ⟨gc, 0, none⟩) n n) ∧ Fr (fun k => k ≠ g) w w' ∧ w.heap.size ≤ gc ∧ Rw w' gc (clI (B.clo c n)) n ∧ (0 < n → Rw w' g (fun j => (B.chg c n j : Int)) n) := by
  obtain ⟨i0, hi, hz0, hz1, hz2⟩ := info_parts Try.infoIn
  have hmk : ∀ W : World, (Instr.makeSlice 29 (.int .i64 (n : Int)) (.int .i64 (n : Int))).run Try.prog W = .ok (.slice (some ⟨W.heap.size, 0, none⟩) n n) (W.alloc (.cells (madeCells (Value.int .i64 0).cells n) 3)) := fun W => by
    have := run_make (P := Try.prog) W 29 3 i0 _ Try.underlying29 hi hz0 .i64 .i64 (n : Int) (n : Int) (by omega) (by omega) (by rw [hz2]; omega) (by omega)
    rw [this, hz1, Int.toNat_natCast, Nat.mul_one]
  have HA := Lib.hid hA
  rcases Nat.eq_zero_or_pos n with rfl | h0
  · have hM0 := make_rw w 0
    have HM := Lib.hid hM0
    have hmk0 : ∀ W : World, (Instr.makeSlice 29 (.int .i64 0) (.int .i64 0)).run Try.prog W = .ok (.slice (some ⟨W.heap.size, 0, none⟩) 0 0) (W.alloc (.cells (madeCells (Value.int .i64 0).cells 0) 3)) := fun W => hmk W
    clear hA hM0 hmk
    obtain ⟨MC, hMC⟩ : ∃ M, madeCells (Value.int .i64 0).cells 0 = M := ⟨_, rfl⟩
    rw [hMC] at hmk0 HM
    clear hMC
    go_enter Try.func34, Try.ntmps34
    go_wp2
    go_loopw [29] (fun iv wr => iv = .int .i64 0 ∧ wr = w.alloc (.cells MC 3)) (fun _ _ => 0)
    case atStart => exact ⟨rfl, rfl⟩
    case round =>
      obtain ⟨rfl, rfl⟩ := hrel
      go_wp2
      go_loopw [8] (fun iv wr => iv = .int .i64 0 ∧ wr = w.alloc (.cells MC 3)) (fun _ _ => 0)
      case atStart => exact ⟨rfl, rfl⟩
      case round =>
        obtain ⟨rfl, rfl⟩ := hrel
        go_wp2
        go_ret
        exact ⟨_, rfl, (Fr.refl _ _).alloc _, Nat.le_refl _, HM.out.congr (fun j hj => absurd hj (Nat.not_lt_zero _)), fun h => absurd h (by omega)⟩
  · obtain ⟨rfl, hw⟩ := hA h0
    obtain ⟨e, he⟩ : ∃ e, B.pend c n = e := ⟨_, rfl⟩
    have hen : e ≤ n := by rw [← he]; unfold B.pend; split <;> omega
    have HE := Lib.hid he
    have c0 := (hw.at (show n - 1 < n by omega)).1
    obtain ⟨x, hx⟩ : ∃ x, c (n - 1) = x := ⟨_, rfl⟩
    rw [hx] at c0
    obtain ⟨m, hm⟩ : ∃ m, n - 1 = m := ⟨_, rfl⟩
    rw [hm] at c0
    have e1 : ((n : Int) - 1) = (m : Int) := by omega
    obtain ⟨b, hb⟩ : ∃ b, ((x : Int) == 1) = b := ⟨_, rfl⟩
    have HBE := Lib.hid (show e = if b = true then m else n by
      rw [← he, ← hb]; unfold B.pend
      rw [hx, hm]
      by_cases h1 : x = 1
      · subst h1; rw [if_pos ⟨h0, rfl⟩]; rfl
      · rw [if_neg (fun h => h1 h.2), if_neg (by simp; omega)])
    have HW := Lib.hid hw
    clear he hx hm hw hA
    go_enter Try.func34, Try.ntmps34
    go_upto_if 21 with fail
    go_cut [3] (fun s3 wx => s3 = .int .i64 (e : Int) ∧ wx = w)
    case first =>
      cases b
      · have HB := HBE.out
        subst HB
        go_wp2_with fail
        go_meet
        exact ⟨rfl, rfl⟩
      · have HB := HBE.out
        subst HB
        go_wp2_with fail
        go_meet
        exact ⟨rfl, rfl⟩
    case rest =>
      obtain ⟨rfl, rfl⟩ := hcut
      clear HBE e1 hb c0
      have HM0 := Lib.hid (make_rw wc n)
      have hgl := HW.out.lt
      have HWA := Lib.hid (fun o => HW.out.alloc o)
      obtain ⟨MC, hMC⟩ : ∃ M, madeCells (Value.int .i64 0).cells n = M := ⟨_, rfl⟩
      rw [hMC] at hmk HM0
      clear hMC
      go_wp2
      go_loopw [29] (fun iv wr => ∃ k : Nat, iv = .int .i64 (k : Int) ∧ k ≤ n ∧ Fr (fun q => q ≠ wc.heap.size) (wc.alloc (.cells MC 3)) wr ∧ wr.heap.size = wc.heap.size + 1 ∧ Rw wr wc.heap.size (fun j => if j < k then -1 else 0) n) (fun iv _ => n - (RowKit.intOf iv).toNat)
      case atStart => exact ⟨0, rfl, Nat.zero_le _, Fr.refl _ _, by simp, HM0.out.congr (fun j _ => by rw [if_neg (Nat.not_lt_zero _)])⟩
      case round =>
        obtain ⟨k, rfl, hk, hFr, hsz, hRw⟩ := hrel
        by_cases hlt : k < n
        · have f0 := (hRw.at hlt).2
          obtain ⟨u0, c0⟩ : ∃ u, wr.cell? ⟨wc.heap.size, k, none⟩ = some u := ⟨_, (hRw.at hlt).1⟩
          have HR := Lib.hid (And.intro hFr (And.intro hsz hRw))
          clear hFr hsz hRw
          go_wp2
          go_roundw
          case rel =>
            obtain ⟨q1, q2, q3⟩ := HR.out
            refine ⟨k + 1, by go_num, hlt, q1.setCell _ _ (fun _ h => h rfl), by rw [size_setCell]; exact q2, (q3.set k (-1)).congr (fun j hj => ?_)⟩
            unfold upd
            by_cases h1 : j = k
            · subst h1; rw [if_pos rfl, if_pos (by omega)]
            · rw [if_neg h1]
              show (if j < k then (-1 : Int) else 0) = _
              by_cases h2 : j < k
              · rw [if_pos h2, if_pos (by omega)]
              · rw [if_neg h2, if_neg (by omega)]
          case measure => simp [RowKit.intOf]; omega
        · obtain rfl : n = k := by omega
          have hMa : Ma wc g wc.heap.size n (wc.heap.size + 1) (B.mrun c e 0) (.slice none 0 0) wr := ⟨(((Fr.refl (fun q => q ≠ g) wc).alloc _).below (n := wc.heap.size) (hFr.toBelow (fun q hq => by show q ≠ wc.heap.size; omega) (by simp)) (fun q hq _ => hq)), hRw.congr (fun j hj => by rw [if_pos hj]; rfl), fun _ => (HWA.out _).fr hFr (by show g ≠ wc.heap.size; omega), World.ownsRow_nil _ _ _ _, ⟨by omega, Nat.le_refl _, by omega⟩, fun _ => hgl⟩
          have HMA := Lib.hid hMa
          clear hFr hsz hRw hMa
          go_wp2
          go_loopw [6, 7, 8] (fun ov pv iv wr => ∃ i : Nat, iv = .int .i64 (i : Int) ∧ i ≤ e ∧ pv = .int .i64 ((B.mrun c e i).pl : Int) ∧ Ma wc g wc.heap.size n (wc.heap.size + 1) (B.mrun c e i) ov wr) (fun _ _ iv _ => e - (RowKit.intOf iv).toNat)
          case atStart => exact ⟨0, rfl, Nat.zero_le _, rfl, HMA.out⟩
          case round =>
            clear HMA HM0 HWA hmk
            obtain ⟨i, rfl, hie, rfl, hMr⟩ := hrel
            by_cases hlt : i < e
            · have hmo := B.mok c e (by omega) i hie
              have HSt : Hid (B.mrun c e (i + 1) = B.mstep c e (B.mrun c e i) i) := Lib.hid rfl
              obtain ⟨q, hq⟩ : ∃ q, B.mrun c e i = q := ⟨_, rfl⟩
              rw [hq] at hmo hMr HSt ⊢
              have hin : i < n := by omega
              have hl0 := hMr.l0 h0
              have l0c := (hl0.at hin).1
              have l0f := (hl0.at hin).2
              have hco : ((q.ch i : Nat) : Int) = (c i : Int) := by rw [hmo.ch_out i (Nat.le_refl _)]
              rw [hco] at l0c
              obtain ⟨A6, c6, hu6, hc6, hA6⟩ := ownN_form hMr.op
              subst hu6
              have hop := hMr.op
              have hopl := hop.lt
              have hgc := hMr.gc_
              have hqh := hmo.h
              have hqi := hmo.hi
              have hqp := hmo.pl
              have hst := hmo.st_lt
              have hcl0 := (hMr.cl.at hin).2
              obtain ⟨P, hP⟩ : ∃ P, q.pl = P := ⟨_, rfl⟩
              obtain ⟨H, hH⟩ : ∃ H, q.h = H := ⟨_, rfl⟩
              rw [hP] at hqp ⊢
              rw [hH] at hqh hqi hop hst hA6 hc6 hMr ⊢
              have HMr := Lib.hid hMr
              have HPq := Lib.hid hP
              have HHq := Lib.hid hH
              have HPLq : Hid (Value.int .i64 (P : Int) = .int .i64 (q.pl : Int)) := Lib.hid (by rw [hP])
              obtain ⟨x, hx⟩ : ∃ x, c i = x := ⟨_, rfl⟩
              rw [hx] at l0c
              have HX := Lib.hid hx
              clear hmo hMr hq hl0 hco hP hH hx
              by_cases hop3 : x = 9 ∨ x = 10 ∨ x = 11
              · have hIs : B.isOp (c i) = true := by rw [HX.out]; rcases hop3 with h | h | h <;> subst h <;> rfl
                by_cases h60 : H = 60
                · have HS := Lib.hid (HSt.out.trans (ms_full hIs (HHq.out.trans h60)))
                  subst h60
                  rcases hop3 with rfl | rfl | rfl
                  all_goals (
                    go_wp2
                    go_roundw
                    case rel => exact ⟨i + 1, by go_num, by omega, by rw [HS.out]; show Value.int .i64 _ = .int .i64 ((q.pl + 1 : Nat) : Int); rw [HPq.out]; go_num, by rw [HS.out]; exact HMr.out.set0 i _ h0⟩
                    case measure => simp [RowKit.intOf]; omega)
                · have HS := Lib.hid (HSt.out.trans (ms_push hIs (fun h => h60 (HHq.out.symm.trans h))))
                  have b60 : ((H : Int) == 60) = false := by simp; omega
                  rcases hop3 with rfl | rfl | rfl
                  all_goals (
                    go_wp2_with (at_builtin; go_must (refine wpList_append_own _ rfl _ _ 29 rfl (wc.heap.size + 1) 3 i0 _ 1 8 Try.underlying29 hi hz0 hz1 hz2 rfl (by decide) _ _ _ rfl (hop.alloc _) ⟨wr.heap.size, 0, none⟩ 1 1 [.int .i64 (i : Int)] rfl rfl (World.news_of_block (World.alloc_heap_new wr _)) (by simp [Value.oneCell']) (by unfold maxLen; omega) (by omega) (by simp; omega) ?_); intro v' w2 hown hg _; have HPU := Lib.hid (HMr.out.push (v' := v') i e h0 (by omega) _ hg (by rw [HHq.out]; exact hown)); have f1 := (HPU.out.2.at hin).2; obtain ⟨u1, c1⟩ : ∃ u, w2.cell? ⟨wc.heap.size, i, none⟩ = some u := ⟨_, (HPU.out.2.at hin).1⟩; clear hown hg)
                    go_roundw
                    case rel => exact ⟨i + 1, by go_num, by omega, by rw [HS.out]; exact HPLq.out, by rw [HS.out]; exact HPU.out.1⟩
                    case measure => simp [RowKit.intOf]; omega)
              · have hno : B.isOp (c i) = false := by
                  rw [HX.out]
                  unfold B.isOp
                  rw [Bool.and_eq_false_iff, decide_eq_false_iff_not, decide_eq_false_iff_not]
                  omega
                have b9 : ((x : Int) == 9) = false := by simp; omega
                have b10 : ((x : Int) == 10) = false := by simp; omega
                have b11 : ((x : Int) == 11) = false := by simp; omega
                by_cases h12 : x = 12
                · have hx12 : c i = 12 := HX.out.trans h12
                  subst h12
                  clear b9 b10 b11
                  by_cases hP0 : 0 < P
                  · have HS := Lib.hid (HSt.out.trans (ms_plain hx12 (by rw [HPq.out]; exact hP0)))
                    clear hx12
                    go_wp2
                    go_roundw
                    case rel => exact ⟨i + 1, by go_num, by omega, by rw [HS.out]; show Value.int .i64 _ = .int .i64 ((q.pl - 1 : Nat) : Int); rw [HPq.out]; go_num, by rw [HS.out]; exact HMr.out.set0 i _ h0⟩
                    case measure => simp [RowKit.intOf]; omega
                  · have dP : decide (0 < P) = false := decide_eq_false hP0
                    have dP2 : decide ((0 : Int) < (P : Int)) = false := decide_eq_false (by omega)
                    by_cases hH0 : 0 < H
                    · have HS := Lib.hid (HSt.out.trans (ms_pop hx12 (by rw [HPq.out]; exact hP0) (by rw [HHq.out]; exact hH0)))
                      obtain ⟨g6, rfl⟩ := hA6 hH0
                      have o0 := (row_rw hop).at (show H - 1 < H by omega)
                      have hsl := hst (H - 1) (by omega)
                      obtain ⟨y, hy⟩ : ∃ y, q.st (H - 1) = y := ⟨_, rfl⟩
                      rw [hy] at o0 hsl
                      obtain ⟨K, hK⟩ : ∃ K, H - 1 = K := ⟨_, rfl⟩
                      rw [hK] at o0 hy
                      have e1 : ((H : Int) - 1) = (K : Int) := by omega
                      have o1 := o0.1
                      obtain ⟨u1, c1⟩ : ∃ u, wr.cell? ⟨wc.heap.size, y, none⟩ = some u := ⟨_, (HMr.out.cl.at (show y < n by omega)).1⟩
                      have f1 := (HMr.out.cl.at (show y < n by omega)).2
                      have HPO : Hid (Ma wc g wc.heap.size n (wc.heap.size + 1) (B.mrun c e (i + 1)) (.slice (some ⟨g6, 0, none⟩) K c6) (wr.setCell ⟨wc.heap.size, y, none⟩ (.int .i64 (i : Int)))) := Lib.hid (by
                        have := Ma.pop (m := q) (A := some ⟨g6, 0, none⟩) (cap := c6) (by rw [HHq.out]; exact HMr.out) i (by omega) h0 (by rw [HHq.out]; exact hH0)
                        rw [HHq.out, hK, hy] at this
                        rw [HS.out, HHq.out, hK, hy]
                        exact this)
                      have hKc : K ≤ c6 := by omega
                      clear hx12 o0 hy hK
                      go_wp2
                      go_roundw
                      case rel => exact ⟨i + 1, by go_num, by omega, by rw [HS.out]; exact HPLq.out, HPO.out⟩
                      case measure => simp [RowKit.intOf]; omega
                    · have dH : decide (0 < H) = false := decide_eq_false hH0
                      have dH2 : decide ((0 : Int) < (H : Int)) = false := decide_eq_false (by omega)
                      have HS := Lib.hid (HSt.out.trans (ms_none hx12 (by rw [HPq.out]; exact hP0) (by rw [HHq.out]; exact hH0)))
                      clear hx12
                      go_wp2
                      go_roundw
                      case rel => exact ⟨i + 1, by go_num, by omega, by rw [HS.out]; exact HPLq.out, by rw [HS.out]; exact HMr.out.set0 i q.pl h0⟩
                      case measure => simp [RowKit.intOf]; omega
                · have b12 : ((x : Int) == 12) = false := by simp; omega
                  have HS := Lib.hid (HSt.out.trans (ms_other hno (by rw [HX.out]; exact h12)))
                  clear hno
                  go_wp2
                  go_roundw
                  case rel => exact ⟨i + 1, by go_num, by omega, by rw [HS.out]; exact HPLq.out, by rw [HS.out]; exact HMr.out⟩
                  case measure => simp [RowKit.intOf]; omega
            · obtain rfl : e = i := by omega
              have HF := Lib.hid (And.intro hMr.fr (And.intro hMr.gc_.2.1 (And.intro hMr.cl hMr.l0)))
              clear hMr
              go_wp2
              go_ret
              obtain ⟨q1, q2, q3, q4⟩ := HF.out
              refine ⟨_, rfl, q1, q2, ?_, fun h => ?_⟩
              · unfold B.clo; rw [HE.out]; exact q3
              · unfold B.chg; rw [HE.out]; exact q4 h
end Go.Proofs.Ytclblidfamabdaa
