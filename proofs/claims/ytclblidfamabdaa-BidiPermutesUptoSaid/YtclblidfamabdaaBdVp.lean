/- Visual, plain: what is seen; builders under what turns elsewhere. -/
import Derived.Test.YtclblidfamabdaaBdSb
import Derived.Test.YtclblidfamabdaaBdBa
import Derived.Test.YtclblidfamabdaaBdOr
import Derived.Test.YtclblidfamabdaaRunP
import Derived.Laws.BytesArg
import Derived.Laws.IdiomStrings
set_option linter.unusedVariables false
set_option linter.unusedSimpArgs false
namespace Go.Proofs.Ytclblidfamabdaa
open Go.RowKit Go.Shelf Go.Lib Go.BigFrame

/-- Has a text no rune of class B? -/
def B.line (l : List U.Tk) : Bool := l.all fun t => decide (B.cls (t.1 : Int) ≠ 1)
/-- The j-th rune of the i-th cluster, as it is seen. -/
def B.vis1 (l : List U.Tk) (lv : Nat → Nat) (i j : Nat) : Int := if j = 0 ∧ lv i % 2 = 1 then B.mir (C.rune l (C.sgF l i) : Int) else (C.rune l (C.sgF l i + j) : Int)
def B.visN (l : List U.Tk) (lv : Nat → Nat) (i k : Nat) : List Int := (List.range k).map (B.vis1 l lv i)
def B.visI (l : List U.Tk) (lv : Nat → Nat) (i : Nat) : List Int := B.visN l lv i (C.sgF l (i + 1) - C.sgF l i)
/-- The first k clusters, from the left. -/
def B.visR (l : List U.Tk) (lv : Nat → Nat) (n k : Nat) : List Int := (List.range k).flatMap fun q => B.visI l lv (B.ord lv n q)
def visV (s : ByteArray) (base : Nat) : ByteArray × Nat :=
  let l := U.toks s.data.toList
  let n := (C.clus l).length
  if B.line l then (⟨(textB (B.visR l (B.lvAll base (B.kcl l) n) n n)).toArray⟩, 0) else (⟨#[]⟩, 24)
theorem B.visN_succ (l : List U.Tk) (lv : Nat → Nat) (i k : Nat) : B.visN l lv i (k + 1) = B.visN l lv i k ++ [B.vis1 l lv i k] := by simp [B.visN, List.range_succ]
theorem B.visR_succ (l : List U.Tk) (lv : Nat → Nat) (n k : Nat) : B.visR l lv n (k + 1) = B.visR l lv n k ++ B.visI l lv (B.ord lv n k) := by simp [B.visR, List.range_succ]
theorem textB_app (a b : List Int) : textB (a ++ b) = textB a ++ textB b := by simp [textB]
theorem textB_one (r : Int) : textB [r] = Lib.encodeRune r := by simp [textB]
theorem textB_len (l : List Int) : (textB l).length ≤ 4 * l.length := by
  have h := runesC_len l
  rw [runesC_eq] at h
  simpa [Lib.byteCells] using h
theorem B.visN_len (l : List U.Tk) (lv : Nat → Nat) (i k : Nat) : (B.visN l lv i k).length = k := by simp [B.visN]
theorem B.visR_len (l : List U.Tk) (lv : Nat → Nat) (n M : Nat) (hM : ∀ i, C.sgF l (i + 1) - C.sgF l i ≤ M) : ∀ k, (B.visR l lv n k).length ≤ k * M := by
  intro k
  induction k with
  | zero => simp [B.visR]
  | succ k ih =>
    rw [B.visR_succ, List.length_append]
    have : (B.visI l lv (B.ord lv n k)).length ≤ M := by unfold B.visI; rw [B.visN_len]; exact hM _
    rw [Nat.succ_mul]; omega
theorem sgF_le (l : List U.Tk) (k : Nat) : C.sgF l k ≤ l.length := by
  unfold C.sgF C.start
  cases h : (C.clus l)[k]? with
  | none => simp
  | some c =>
    simp only [Option.map_some, Option.getD_some]
    obtain ⟨h1, h2, h3, h4, h5, h6, h7, _⟩ := C.clus_at l k c h
    omega
/-- Levels are not great. -/
theorem B.lvl_le (e c : Nat) : B.lvl e c ≤ e + 2 := by unfold B.lvl; repeat' split
                                                       all_goals omega
theorem B.inn_le (c cl : Nat → Nat) (e i : Nat) : B.inn c cl e i ≤ e + 2 := by unfold B.inn; split <;> omega
theorem B.lev_le (c cl : Nat → Nat) : ∀ f frm tz e k, B.lev c cl f frm tz e k ≤ e + 2 * f := by
  intro f
  induction f with
  | zero => intro frm tz e k; exact Nat.le_refl _
  | succ f ih =>
    intro frm tz e k
    unfold B.lev
    split
    · have := B.lvl_le e (B.res (B.sid e) (B.cnt cl frm tz) (fun n => c (B.itm cl frm n)) (B.loc cl frm k)); omega
    · have := ih (B.itm cl frm (B.loc cl frm k) + 1) (cl (B.itm cl frm (B.loc cl frm k))) (B.inn c cl e (B.itm cl frm (B.loc cl frm k))) k
      have := B.inn_le c cl e (B.itm cl frm (B.loc cl frm k))
      omega
theorem B.pendF_le (c : Nat → Nat) (n : Nat) : ∀ f i, i ≤ n → B.pendF c n f i ≤ n := by
  intro f
  induction f with
  | zero => intro i h; exact h
  | succ f ih =>
    intro i h
    unfold B.pendF
    split
    · split
      · omega
      · exact ih (i + 1) (by omega)
    · exact h
theorem B.pbeg_le (c : Nat → Nat) : ∀ k, B.pbeg c k ≤ k := by
  intro k
  induction k with
  | zero => exact Nat.le_refl _
  | succ k ih => unfold B.pbeg; split <;> omega
theorem B.lvAll_le (base : Nat) (c : Nat → Nat) (n k : Nat) (hk : k < n) : B.lvAll base c n k ≤ base + 2 * n := by
  have h1 := B.pbeg_le c k
  have h2 := B.pendF_le c n (n - B.pbeg c k) (B.pbeg c k) (by omega)
  unfold B.lvAll B.plev
  split
  · omega
  · split
    · omega
    · have := B.lev_le (fun j => c (B.pbeg c k + j)) (B.clo (fun j => c (B.pbeg c k + j)) (B.pfin c n (B.pbeg c k) - B.pbeg c k)) (B.pfin c n (B.pbeg c k) - B.pbeg c k) 0 (B.pfin c n (B.pbeg c k) - B.pbeg c k) base (k - B.pbeg c k)
      unfold B.pfin at this ⊢
      omega
theorem mirF_mem : ∀ (l : List Int) (r : Int), B.mirF l r = r ∨ B.mirF l r ∈ l
  | [], r => .inl rfl
  | [a], r => .inl rfl
  | a :: b :: l, r => by
    unfold B.mirF
    split
    · exact .inr (by simp)
    · split
      · exact .inr (by simp)
      · exact (mirF_mem l r).imp id (fun h => by simp [h])
theorem mir_range (r : Int) (h0 : -2147483648 ≤ r) (h1 : r ≤ 2147483647) : -2147483648 ≤ B.mir r ∧ B.mir r ≤ 2147483647 := by
  rcases mirF_mem B.prs r with h | h
  · unfold B.mir; rw [h]; exact ⟨h0, h1⟩
  · have : ∀ x ∈ B.prs, -2147483648 ≤ x ∧ x ≤ 2147483647 := by decide
    exact this _ h
theorem rune_range (s : ByteArray) (k : Nat) : C.rune (U.toks s.data.toList) k ≤ 1114111 := by
  unfold C.rune
  cases h : (U.toks s.data.toList)[k]? with
  | none => simp
  | some t => simp only [Option.getD_some]; exact (U.toks_fact _ t (List.mem_of_getElem? h)).2.2.1
theorem vis1_range (s : ByteArray) (lv : Nat → Nat) (i j : Nat) : -2147483648 ≤ B.vis1 (U.toks s.data.toList) lv i j ∧ B.vis1 (U.toks s.data.toList) lv i j ≤ 2147483647 := by
  unfold B.vis1
  have h1 := rune_range s (C.sgF (U.toks s.data.toList) i)
  have h2 := rune_range s (C.sgF (U.toks s.data.toList) i + j)
  split
  · exact mir_range _ (by omega) (by omega)
  · omega

/-- One step of a range over a text. -/
theorem tok_step (s : ByteArray) (l : List U.Tk) (k : Nat) (hk : k ≤ l.length) (hH : U.toks (s.data.toList.drop (C.pl l k)) = l.drop k) (hp : C.pl l k < s.size) :
    ∃ c wd, Utf8.decode s (C.pl l k) = (c, wd) ∧ k < l.length ∧ l[k]? = some (c, wd) ∧ C.pl l (k + 1) = C.pl l k + wd ∧ U.toks (s.data.toList.drop (C.pl l (k + 1))) = l.drop (k + 1) ∧ 0 < wd ∧ C.pl l k + wd ≤ s.size := by
  have hd := decode_facts hp
  have hts := toks_at hp
  obtain ⟨c, wd, hdec⟩ : ∃ c wd, Utf8.decode s (C.pl l k) = (c, wd) := ⟨_, _, rfl⟩
  rw [hdec] at hd hts
  simp only at hd hts
  have hlt : k < l.length := by
    have := congrArg List.length (hH.symm.trans hts)
    rw [List.length_drop, List.length_cons] at this
    omega
  have hdk : l.drop k = (c, wd) :: U.toks (s.data.toList.drop (C.pl l k + wd)) := hH.symm.trans hts
  have hlk : l[k]? = some (c, wd) := by
    rw [List.drop_eq_getElem_cons hlt] at hdk
    rw [List.getElem?_eq_getElem hlt, (List.cons.inj hdk).1]
  have hpl : C.pl l (k + 1) = C.pl l k + wd := by rw [C.pl_succ l k hlt]; simp [C.lenAt, hlk]
  refine ⟨c, wd, hdec, hlt, hlk, hpl, ?_, by omega, by omega⟩
  rw [List.drop_eq_getElem_cons hlt] at hdk
  rw [hpl, (List.cons.inj hdk).2]

/-- A builder under what turns no old block. -/
theorem Bld.below {B b : Nat} {l : List UInt8} {w w' : World} (h : Bld B b l w) (hb : Below w.heap.size w w') : Bld B b l w' := by
  have key : ∀ p, Lib.BuilderAtF 79 5 B b p (Lib.byteCells l) w → Lib.BuilderAtF 79 5 B b p (Lib.byteCells l) w' := by
    rintro p ⟨h1, v, h2, h3, h4⟩
    refine ⟨h1, v, (hb.block b (Array.getElem?_eq_some_iff.1 h2).1).trans h2, ⟨h3.1, ?_⟩, h4⟩
    rcases h3.2 with hn | ⟨g, cap, cur, fz, hv, hbg, hg, rest⟩
    · exact .inl hn
    · exact .inr ⟨g, cap, cur, fz, hv, hbg, (hb.block g (Array.getElem?_eq_some_iff.1 hg).1).trans hg, rest⟩
  exact h.elim (fun x => .inl (key _ x)) (fun x => .inr (key _ x))
theorem oth_below {e : TypeId} {b : Option Nat} {w w' : World} (hb : Below w.heap.size w w') : Lib.OthersKept e b w w' := fun k o h _ _ => (hb.block k (Array.getElem?_eq_some_iff.1 h).1).trans h
/-- A new builder. -/
theorem Bld.new (w : World) (B : Nat) (hB : B ≤ w.heap.size) : Bld B w.heap.size [] (w.alloc (.cells #[.pointer none, .slice none 0 0] 79)) :=
  .inl ⟨hB, .slice none 0 0, World.alloc_heap_new w _, World.ownsRowF_nil _ _ _ _, by simp [Value.ownBlock]⟩
theorem oth_cell {e t : TypeId} {b : Nat} {w w' : World} (h : Lib.OthersKept e (some b) w w') {k : Nat} {c : Array Value} {fr : Nat × Nat} (hk : w.heap[k]? = some (.cells c t fr)) (ht : t ≠ e) (hb : k ≠ b) : w'.heap[k]? = some (.cells c t fr) :=
  h k _ hk (fun x => hb (Option.some.inj x)) (fun c2 f2 e2 => ht (by cases e2; rfl))
theorem rw_oth {b g n : Nat} {c : Nat → Int} {w w' : World} (h : Rw w g c n) (ho : Lib.OthersKept 5 (some b) w w') (hb : g ≠ b) : Rw w' g c n := by
  obtain ⟨cur, h1, h2, h3⟩ := h
  exact ⟨cur, oth_cell ho h1 (by decide) hb, h2, h3⟩
/-- '[]rune(s)', and where it lies. -/
theorem runes_conv_at (s : ByteArray) (w : World) (hs : s.size ≤ 4194304) : ∃ cap W' arr, (convert 9 44 (.string s)).run Try.prog w = .ok (.slice (some ⟨w.heap.size, 0, none⟩) (runesL s.data.toList).length cap) W' ∧
    Below w.heap.size w W' ∧ W'.heap.size = w.heap.size + 1 ∧ W'.heap[w.heap.size]? = some (.cells arr 21 (0, 0)) ∧ (∀ (j : Nat) (x : Int), (runesL s.data.toList)[j]? = some x → arr[j]? = some (.int .i32 x)) := by
  have he := runesFrom_eq s s.size 0 #[] (by omega)
  rw [List.drop_zero] at he
  have hsz : (Conv.runesFrom s s.size 0 #[]).size = (runesL s.data.toList).length := by rw [he]; simp [runesL]
  have hr := Go.run_runes_of_string (P := Try.prog) w 9 44 21 s Try.underlying9 Try.underlying44 Try.underlying21 (by rw [hsz, runesL_len]; have := toks_len (s := s); omega)
  rw [hsz] at hr
  refine ⟨_, _, _, hr, ((Below.refl _ _).drew).alloc (Nat.le_refl _) _, by simp, World.alloc_heap_new w.drew _, fun j x hx => ?_⟩
  have hj : j < (runesL s.data.toList).length := (List.getElem?_eq_some_iff.1 hx).1
  rw [Array.getElem?_append_left (by rw [hsz]; exact hj), he]
  simp [runesL] at hx ⊢
  exact hx
theorem ord_lt (lv : Nat → Nat) (m k : Nat) (hk : k < m) : B.ord lv m k < m := by
  have : ∀ e (o : Nat → Nat), (∀ k, k < m → o k < m) → ∀ k, k < m → B.ordF lv m e o k < m := by
    intro e
    induction e with
    | zero => intro o h k hk; exact h k hk
    | succ e ih => intro o h k hk; exact ih _ (fun k hk => B.trn_lt lv (e + 1) m o h k hk) k hk
  exact this _ id (fun k h => h) k hk
/-- The runes of a cluster's part. -/
theorem part_runes (s : ByteArray) (i : Nat) (hi : i < (C.clus (U.toks s.data.toList)).length) : runesL (s.extract (C.atF (U.toks s.data.toList) i) (C.atF (U.toks s.data.toList) (i + 1))).data.toList = (List.range (C.sgF (U.toks s.data.toList) (i + 1) - C.sgF (U.toks s.data.toList) i)).map fun j => (C.rune (U.toks s.data.toList) (C.sgF (U.toks s.data.toList) i + j) : Int) := by
  obtain ⟨x, hx⟩ : ∃ x, (C.clus (U.toks s.data.toList))[i]? = some x := ⟨_, List.getElem?_eq_getElem hi⟩
  have hp := part_toks s i x hx
  obtain ⟨e1, e2, e3, e4, e5, e6, e7, e8, e9, e10⟩ := C.clus_steps _ (C.toks_14 _) i x hx
  rw [e1, e4] at hp
  unfold runesL
  rw [hp, e2, e3]
  apply List.ext_getElem?
  intro j
  rw [List.getElem?_map, List.getElem?_take, List.getElem?_map]
  by_cases hj : j < C.sgF (U.toks s.data.toList) (i + 1) - C.sgF (U.toks s.data.toList) i
  · rw [if_pos hj, List.getElem?_drop, List.getElem?_range hj]
    unfold C.rune
    rw [List.getElem?_eq_getElem (by omega)]
    simp only [Option.map_some]
    rw [List.getElem?_eq_getElem (by omega)]
    rfl
  · rw [if_neg hj]
    simp [hj]
end Go.Proofs.Ytclblidfamabdaa
