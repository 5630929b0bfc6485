/- bidi.settled; bidi.weak: the first loops. -/
import Derived.Test.YtclblidfamabdaaBdV
import Derived.StillTailTactics
set_option linter.unusedVariables false
set_option linter.unusedSimpArgs false
namespace Go.Proofs.Ytclblidfamabdaa
open Go.RowKit Go.Shelf Go.Lib Go.BigFrame
attribute [local go_sem] Oper.semAt_some

theorem enters_et : ∀ args w, (callFunc 82 args).run Try.prog w = .ok (.enter 82 args) w := enters_of Try.func82 (by kernel_rfl) rfl
theorem enters_f5 : ∀ args w, (callFunc 83 args).run Try.prog w = .ok (.enter 83 args) w := enters_of Try.func83 (by kernel_rfl) rfl
theorem enters_neu : ∀ args w, (callFunc 84 args).run Try.prog w = .ok (.enter 84 args) w := enters_of Try.func84 (by kernel_rfl) rfl
theorem enters_f8 : ∀ args w, (callFunc 85 args).run Try.prog w = .ok (.enter 85 args) w := enters_of Try.func85 (by kernel_rfl) rfl

/-- What holds between the loops: the boxes; the row. -/
structure Wk (w : World) (g n kb sb side : Nat) (c : Nat → Int) (W : World) : Prop where
  fr : Fr (fun k => k ≠ g) w W
  k : W.cell? ⟨kb, 0, none⟩ = some (.slice (some ⟨g, 0, none⟩) n n)
  s : W.cell? ⟨sb, 0, none⟩ = some (.int .i64 (side : Int))
  row : Rw W g c n
  ne : kb ≠ g ∧ sb ≠ g
theorem Wk.set {w : World} {g n kb sb side : Nat} {c : Nat → Int} {W : World} (h : Wk w g n kb sb side c W) (i : Nat) (x : Int) : Wk w g n kb sb side (upd c i x) (W.setCell ⟨g, i, none⟩ (.int .i64 x)) := by
  have hf : Fr (fun k => k ≠ g) W (W.setCell ⟨g, i, none⟩ (.int .i64 x)) := (Fr.refl _ _).setCell _ _ (fun _ hh => hh rfl)
  exact ⟨h.fr.trans hf, hf.cell h.k h.ne.1, hf.cell h.s h.ne.2, h.row.set i x, h.ne⟩
theorem Wk.to {w : World} {g n kb sb side : Nat} {c d : Nat → Int} {W W' : World} (h : Wk w g n kb sb side c W) (hf : Fr (fun k => k ≠ g) W W') (hr : Rw W' g d n) : Wk w g n kb sb side d W' :=
  ⟨h.fr.trans hf, hf.cell h.k h.ne.1, hf.cell h.s h.ne.2, hr, h.ne⟩
theorem Wk.below {w : World} {g n kb sb side : Nat} {c : Nat → Int} {W W' : World} (h : Wk w g n kb sb side c W) (hb : Below W.heap.size W W') : Wk w g n kb sb side c W' :=
  h.to (Fr.of_below hb (fun k hk _ => hk)) (h.row.fr (Fr.of_below (S := fun k => k < W.heap.size) hb (fun k _ h => h)) h.row.lt)
theorem Wk.congr {w : World} {g n kb sb side : Nat} {c d : Nat → Int} {W : World} (h : Wk w g n kb sb side c W) (e : ∀ j, j < n → c j = d j) : Wk w g n kb sb side d W := ⟨h.fr, h.k, h.s, h.row.congr e, h.ne⟩
theorem Wk.drew {w : World} {g n kb sb side : Nat} {c : Nat → Int} {W : World} (h : Wk w g n kb sb side c W) : Wk w g n kb sb side c W.drew := h.below ((Below.refl _ _).drew)
theorem Wk.drewN {w : World} {g n kb sb side : Nat} {c : Nat → Int} {W : World} (h : Wk w g n kb sb side c W) (m : Nat) : Wk w g n kb sb side c (W.drewN m) := h.below (below_dn (Below.refl _ _) m)
/-- A row of which a front is done. -/
def pt (a b : Nat → Nat) (i k : Nat) : Int := if k < i then (a k : Int) else (b k : Int)
theorem pt_lo {a b : Nat → Nat} {i k : Nat} (h : k < i) : pt a b i k = (a k : Int) := if_pos h
theorem pt_hi {a b : Nat → Nat} {i k : Nat} (h : ¬ k < i) : pt a b i k = (b k : Int) := if_neg h
theorem pt_set {a b : Nat → Nat} {i : Nat} {x : Int} (h : x = (a i : Int)) (k : Nat) : upd (pt a b i) i x k = pt a b (i + 1) k := by
  unfold upd pt
  by_cases h1 : k = i
  · subst h1; rw [if_pos rfl, if_pos (by omega), h]
  · rw [if_neg h1]
    by_cases h2 : k < i
    · rw [if_pos h2, if_pos (by omega)]
    · rw [if_neg h2, if_neg (by omega)]
theorem pt_skip {a b : Nat → Nat} {i : Nat} (h : a i = b i) (k : Nat) : pt a b i k = pt a b (i + 1) k := by
  unfold pt
  by_cases h1 : k = i
  · subst h1; rw [if_neg (by omega), if_pos (by omega), h]
  · by_cases h2 : k < i
    · rw [if_pos h2, if_pos (by omega)]
    · rw [if_neg h2, if_neg (by omega)]

theorem box_two (w : World) (u : Value) (o : Obj) (t : TypeId) : ((w.alloc o).alloc (.cells #[u] t)).cell? ⟨w.heap.size + 1, 0, none⟩ = some u := by
  have := (cell_new (w.alloc o) u t).1
  rwa [World.size_alloc] at this

set_option maxRecDepth 1000000 in
set_option maxHeartbeats 4000000 in
theorem settled_any (g n side : Nat) (l : Nat → Nat) (w : World) (hn : n ≤ 4194304) (hl : ∀ j, j < n → l j ≤ 17) (hR : Rw w g (fun j => (l j : Int)) n) :
    Calls Try.prog 60 #[.slice (some ⟨g, 0, none⟩) n n, .int .i64 (side : Int)] w fun e w' => (∃ v, e = .returned v) ∧ Fr (fun k => k ≠ g) w w' ∧ Rw w' g (fun k => (B.v8 side n l k : Int)) n := by
  have hgl := hR.lt
  have ST : Hid (∀ W, Fr (fun _ => True) w W → W.cell? ⟨w.heap.size, 0, none⟩ = some (.slice (some ⟨g, 0, none⟩) n n) → W.cell? ⟨w.heap.size + 1, 0, none⟩ = some (.int .i64 (side : Int)) → Calls Try.prog 81 #[.slice (some ⟨g, 0, none⟩) n n, .func (.func 84) #[] #[], .func (.func 85) #[] #[.pointer (some ⟨w.heap.size + 1, 0, none⟩), .pointer (some ⟨w.heap.size, 0, none⟩)]] W fun e w' => (∃ v, e = .returned v) ∧ Fr (fun k => k ≠ g) W w' ∧ Rw w' g (fun k => (B.v8 side n l k : Int)) n) := Lib.hid (fun W hW hk hs => by
    refine stretches_any 84 85 #[.pointer (some ⟨w.heap.size + 1, 0, none⟩), .pointer (some ⟨w.heap.size, 0, none⟩)] g n l B.neu (B.F8 side n l) (fun A => A.cell? ⟨w.heap.size, 0, none⟩ = some (.slice (some ⟨g, 0, none⟩) n n) ∧ A.cell? ⟨w.heap.size + 1, 0, none⟩ = some (.int .i64 (side : Int))) W hn (Nat.lt_of_lt_of_le hgl hW.size) ?_ ⟨hk, hs⟩ (hR.fr hW trivial) enters_neu enters_f8 ?_ ?_
    · intro A A' hf _ h
      exact ⟨hf.cell h.1 (show w.heap.size ≠ g by omega), hf.cell h.2 (show w.heap.size + 1 ≠ g by omega)⟩
    · intro k W hk
      exact neutral_any (l k) W (hl k hk)
    · intro cur W i j hij hjn hC hRw h1 h2
      exact f8_any (w.heap.size + 1) w.heap.size g n i j side l cur W hn hij hjn hC.2 hC.1 hRw h1 h2)
  clear hR hl
  go_enter Try.func60, Try.ntmps60
  go_wp2_with (go_at_call 81; (with_reducible refine (ST.out _ (((Fr.refl _ _).alloc _).alloc _) (cell_new2 _ _ _ _ 0 _ rfl) (box_two _ _ _ _)).mono ?_); rintro e w2 ⟨⟨v, rfl⟩, hf2, hr2⟩)
  go_end0
  exact ⟨⟨_, rfl⟩, (((Fr.refl _ _).alloc _).alloc _).trans hf2, hr2⟩

/-! The rows between the loops do not change what stands ahead. -/
theorem ahd_congr (S : Nat → Bool) (side : Nat) (a b : Nat → Nat) : ∀ i, (∀ j, j < i → S (a j) = S (b j) ∧ (S (b j) = true → a j = b j)) → B.ahd S a side i = B.ahd S b side i := by
  intro i
  induction i with
  | zero => intro _; rfl
  | succ i ih =>
    intro h
    unfold B.ahd
    rw [ih (fun j hj => h j (by omega)), (h i (Nat.lt_succ_self i)).1]
    by_cases hs : B.S3 0 = true ∨ S (b i) = true
    · by_cases h1 : S (b i) = true
      · rw [if_pos h1, if_pos h1, (h i (Nat.lt_succ_self i)).2 h1]
      · rw [if_neg h1, if_neg h1]
    · rw [if_neg (fun h => hs (.inr h)), if_neg (fun h => hs (.inr h))]
theorem ahd_v7 (side : Nat) (l : Nat → Nat) : ∀ i, B.ahd B.S2 (B.v7 side l) side i = B.ahd B.S2 l side i := by
  intro i
  induction i with
  | zero => rfl
  | succ i ih =>
    show (if B.S2 (B.v7 side l i) = true then B.v7 side l i else B.ahd B.S2 (B.v7 side l) side i) = (if B.S2 (l i) = true then l i else B.ahd B.S2 l side i)
    rw [ih]
    unfold B.v7
    by_cases h : l i = 4 ∧ B.ahd B.S2 l side i = 17
    · rw [if_pos h, if_pos (by rfl), if_neg (by rw [h.1]; decide), h.2]
    · rw [if_neg h]
theorem ahd_ext (S : Nat → Bool) (side : Nat) (a b : Nat → Nat) (i : Nat) (h : ∀ j, j < i → a j = b j) : B.ahd S a side i = B.ahd S b side i :=
  ahd_congr S side a b i (fun j hj => by rw [h j hj]; exact ⟨rfl, fun _ => rfl⟩)
theorem ahd_v2 (side : Nat) (l : Nat → Nat) (i : Nat) : B.ahd B.S3 (B.v2 side l) side i = B.ahd B.S3 l side i :=
  ahd_congr B.S3 side _ _ i (fun j _ => by
    unfold B.v2
    by_cases h : l j = 4 ∧ B.ahd B.S3 l side j = 14
    · rw [if_pos h, h.1]; exact ⟨rfl, fun h => by cases h⟩
    · rw [if_neg h]; exact ⟨rfl, fun _ => rfl⟩)

/-- The rows of classes that 'ahead' is asked for. -/
def of3 (k : Nat) : Int := if k = 0 then 17 else if k = 1 then 15 else 14
def of2 (k : Nat) : Int := if k = 0 then 17 else 15
theorem has3 (x : Nat) : hasI of3 (x : Int) 3 = B.S3 x := by
  by_cases h : x = 17 ∨ x = 15 ∨ x = 14
  · rcases h with h | h | h <;> subst h <;> decide
  · rw [hasI_no (fun k hk => by unfold of3; split <;> (try split) <;> omega)]
    unfold B.S3; simp; omega
theorem has2 (x : Nat) : hasI of2 (x : Int) 2 = B.S2 x := by
  by_cases h : x = 17 ∨ x = 15
  · rcases h with h | h <;> subst h <;> decide
  · rw [hasI_no (fun k hk => by unfold of2; split <;> omega)]
    unfold B.S2; simp; omega
theorem rd_of3 (W : World) : Rd (W.alloc (.cells #[.int .i64 17, .int .i64 15, .int .i64 14] 3)) (.slice (some ⟨W.heap.size, 0, none⟩) 3 3) of3 3 :=
  Rw.rd ⟨_, World.alloc_heap_new W _, by simp, fun j hj => by
    match j, hj with
    | 0, _ => rfl
    | 1, _ => rfl
    | 2, _ => rfl⟩ 3 (Nat.le_refl _)
theorem rd_of2 (W : World) : Rd (W.alloc (.cells #[.int .i64 17, .int .i64 15] 3)) (.slice (some ⟨W.heap.size, 0, none⟩) 2 2) of2 2 :=
  Rw.rd ⟨_, World.alloc_heap_new W _, by simp, fun j hj => by
    match j, hj with
    | 0, _ => rfl
    | 1, _ => rfl⟩ 2 (Nat.le_refl _)
theorem ahead_wk {w W : World} {g n kb sb side m : Nat} {c : Nat → Int} {a : Nat → Nat} (S : Nat → Bool) (ofs : Nat → Int) (h : Wk w g n kb sb side c W) (hc : ∀ j, j < n → c j = (a j : Int)) (hn : n ≤ 4194304) (hm : m ≤ 4194304) (o : Obj) (ov : Value) (hO : Rd (W.alloc o) ov ofs m) (hS : ∀ x : Nat, hasI ofs (x : Int) m = S x) (i : Nat) (hi : i ≤ n) :
    Calls Try.prog 79 #[.int .i64 (i : Int), ov, .pointer (some ⟨kb, 0, none⟩), .pointer (some ⟨sb, 0, none⟩)] (W.alloc o) fun e w' => e = .returned (.int .i64 (B.ahd S a side i : Int)) ∧ W.alloc o = w' := by
  have h2 := h.below ((Below.refl _ _).alloc (Nat.le_refl _) o)
  exact ahead_any kb sb g n m i side ov a ofs S (W.alloc o) hn hi hm h2.k h2.s (h2.row.congr hc) hO (fun j _ => hS _)
/-- A front done, as one row. -/
def pn (a b : Nat → Nat) (i k : Nat) : Nat := if k < i then a k else b k
theorem pt_pn (a b : Nat → Nat) (i k : Nat) : pt a b i k = (pn a b i k : Int) := by unfold pt pn; split <;> rfl
theorem pn_lo {a b : Nat → Nat} {i k : Nat} (h : k < i) : pn a b i k = a k := if_pos h
end Go.Proofs.Ytclblidfamabdaa
