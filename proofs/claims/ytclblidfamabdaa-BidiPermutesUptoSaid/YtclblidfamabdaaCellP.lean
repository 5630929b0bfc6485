/- What the clusters of any signs are, in plain lists: no program stands here. -/
import Derived.Test.YtclblidfamabdaaUtf
set_option linter.unusedVariables false
namespace Go.Proofs.Ytclblidfamabdaa.C

/-- Is a number in one of these ranges? -/
def inR (l : List (Int × Int)) (r : Int) : Bool := l.any fun p => decide (p.1 ≤ r) && decide (r ≤ p.2)
theorem inR_in {l : List (Int × Int)} {r : Int} (p : Int × Int) (hp : p ∈ l) (h1 : p.1 ≤ r) (h2 : r ≤ p.2) : inR l r = true := List.any_eq_true.2 ⟨p, hp, by simp [h1, h2]⟩
theorem inR_nil (r : Int) : inR [] r = false := rfl
theorem inR_cons (a b : Int) (l : List (Int × Int)) (r : Int) : inR ((a, b) :: l) r = (decide (a ≤ r) && decide (r ≤ b) || inR l r) := rfl

/-- No cells; two cells; stands alone. -/
def rs0 : List (Int × Int) := [(0, 31), (127, 159), (173, 173), (768, 879), (1155, 1161), (1425, 1469), (1471, 1471), (1473, 1474), (1476, 1477), (1479, 1479), (1552, 1562), (1564, 1564), (1611, 1631), (1648, 1648), (1750, 1756), (1759, 1764), (1767, 1768), (1770, 1773), (3633, 3633), (3636, 3642), (3655, 3662), (4448, 4607), (6832, 6911), (7616, 7679), (8203, 8207), (8232, 8238), (8288, 8303), (8400, 8447), (12441, 12442), (65024, 65039), (65056, 65071), (65279, 65279), (127995, 127999), (917504, 921599)]
def rs2 : List (Int × Int) := [(4352, 4447), (8986, 8987), (9001, 9002), (9193, 9196), (9748, 9749), (9889, 9889), (9989, 9989), (10024, 10024), (10060, 10060), (10067, 10069), (10133, 10135), (11035, 11036), (11904, 12350), (12353, 42191), (43360, 43391), (44032, 55203), (63744, 64255), (65072, 65135), (65281, 65376), (65504, 65510), (127744, 128591), (128640, 128767), (129280, 129535), (131072, 262141)]
def rsC : List (Int × Int) := [(0, 31), (127, 159), (1564, 1564), (8206, 8206), (8207, 8207), (8232, 8238), (8294, 8297)]
def no (r : Int) : Bool := inR rs0 r
def two (r : Int) : Bool := inR rs2 r
def ctl (r : Int) : Bool := inR rsC r
def flag (r : Int) : Bool := decide (127462 ≤ r) && decide (r ≤ 127487)
def wid (r : Int) : Nat := if no r then 0 else if two r then 2 else 1
theorem wid_le (r : Int) : wid r ≤ 2 := by unfold wid; split; omega; split <;> omega

/-- A cluster: place and length in bytes, from one sign up to another, its cells. -/
structure Cl where
  at_ : Nat
  len : Nat
  frm : Nat
  to_ : Nat
  cells : Nat
  deriving DecidableEq
/-- One that is being gone through. -/
structure G where
  c : Cl
  first : Nat
  last : Nat
  arrow : Bool

def takes (g : G) (r : Nat) : Bool :=
  if wid r = 0 ∧ ctl r = false then !ctl g.first
  else if flag r then flag g.first && decide (g.c.to_ - g.c.frm = 1)
  else decide (wid r = 2) && (decide (g.last = 8205) && decide (wid g.first = 2))
def isArrow (r : Nat) : Bool := decide (8592 ≤ r) && decide (r ≤ 11263)
def addF (g : G) (r n : Nat) : G := ⟨⟨g.c.at_, g.c.len + n, g.c.frm, g.c.to_ + 1, wid r⟩, r, r, isArrow r⟩
def addM (g : G) (r n : Nat) : G := ⟨⟨g.c.at_, g.c.len + n, g.c.frm, g.c.to_ + 1, if flag r || (g.arrow && decide (r = 65039)) then 2 else g.c.cells⟩, g.first, r, g.arrow⟩
def add (g : G) (r n : Nat) : G := if g.c.to_ = g.c.frm then addF g r n else addM g r n
def new (g : G) : G := ⟨⟨g.c.at_ + g.c.len, 0, g.c.to_, g.c.to_, 0⟩, 0, 0, false⟩
def zero : G := ⟨⟨0, 0, 0, 0, 0⟩, 0, 0, false⟩

/-- One sign more: the clusters that are done by it, the group that it stands in. -/
def step (g : G) (t : U.Tk) : List Cl × G := if takes g t.1 then ([], add g t.1 t.2) else ([g.c], add (new g) t.1 t.2)
/-- So many signs more. -/
def run : G → List U.Tk → List Cl × G
  | g, [] => ([], g)
  | g, t :: l => ((step g t).1 ++ (run (step g t).2 l).1, (run (step g t).2 l).2)
/-- The clusters of a list of signs. -/
def clus : List U.Tk → List Cl
  | [] => []
  | t :: l => (run (add zero t.1 t.2) l).1 ++ [(run (add zero t.1 t.2) l).2.c]
def cells (l : List Cl) : Nat := (l.map (·.cells)).sum

theorem run_append (g : G) (a b : List U.Tk) : run g (a ++ b) = ((run g a).1 ++ (run (run g a).2 b).1, (run (run g a).2 b).2) := by
  induction a generalizing g with
  | nil => rfl
  | cons t a ih => simp [run, ih]
theorem run_snoc (g : G) (a : List U.Tk) (t : U.Tk) : run g (a ++ [t]) = ((run g a).1 ++ (step (run g a).2 t).1, (step (run g a).2 t).2) := by
  rw [run_append]; simp [run]
theorem add_new (g : G) (r n : Nat) : add (new g) r n = addF (new g) r n := if_pos rfl

theorem wsum_app (a b : List U.Tk) : U.wsum (a ++ b) = U.wsum a + U.wsum b := by simp [U.wsum]
/-- What a group is that stands at signs frm up to to of a list: its place, its first, its last, its cells. -/
def rune (l : List U.Tk) (k : Nat) : Nat := (l[k]?.getD (0, 0)).1
def lenAt (l : List U.Tk) (k : Nat) : Nat := (l[k]?.getD (0, 0)).2
def pl (l : List U.Tk) (k : Nat) : Nat := U.wsum (l.take k)
theorem tk_eq (l : List U.Tk) (k : Nat) (h : k < l.length) : l[k] = (rune l k, lenAt l k) := by simp [rune, lenAt, List.getElem?_eq_getElem h]
theorem pl_succ (l : List U.Tk) (k : Nat) (h : k < l.length) : pl l (k + 1) = pl l k + lenAt l k := by
  unfold pl lenAt
  rw [List.take_add_one, wsum_app, List.getElem?_eq_getElem h]; simp [U.wsum]
def hasMark (l : List U.Tk) (frm to : Nat) : Bool := (List.range to).any fun i => decide (frm < i) && decide (rune l i = 65039)
theorem hasMark_succ (l : List U.Tk) (frm to : Nat) (h : frm < to) : hasMark l frm (to + 1) = (hasMark l frm to || decide (rune l to = 65039)) := by
  unfold hasMark; rw [List.range_succ, List.any_append]; simp [h]
theorem hasMark_one (l : List U.Tk) (frm : Nat) : hasMark l frm (frm + 1) = false := by
  unfold hasMark; rw [List.any_eq_false]; intro i hi; rw [List.mem_range] at hi; simp; omega
def cellsOf (l : List U.Tk) (frm to : Nat) : Nat :=
  if decide (1 < to - frm) && flag (rune l frm) && flag (rune l (frm + 1)) then 2
  else if isArrow (rune l frm) && hasMark l frm to then 2 else wid (rune l frm)
/-- As the document has it: does a sign belong to the cluster that began at frm? -/
def joins (l : List U.Tk) (frm k : Nat) : Bool :=
  if wid (rune l k) = 0 ∧ ctl (rune l k) = false ∧ ctl (rune l frm) = false then true
  else if wid (rune l k) = 2 ∧ rune l (k - 1) = 8205 ∧ wid (rune l frm) = 2 then true
  else flag (rune l k) && (decide (k = frm + 1) && flag (rune l frm))
structure Grp (l : List U.Tk) (frm to : Nat) (g : G) : Prop where
  lt : frm < to
  le : to ≤ l.length
  frm_ : g.c.frm = frm
  to_ : g.c.to_ = to
  at_ : g.c.at_ = pl l frm
  len : g.c.at_ + g.c.len = pl l to
  first : g.first = rune l frm
  last : g.last = rune l (to - 1)
  arrow : g.arrow = isArrow (rune l frm)
  cells : g.c.cells = cellsOf l frm to
  joined : ∀ k, frm < k → k < to → joins l frm k = true

theorem flag_wid {r : Int} (h : flag r = true) : wid r = 1 := by
  have hr : 127462 ≤ r ∧ r ≤ 127487 := by simpa [flag] using h
  have h0 : no r = false := by simp [no, inR, rs0]; omega
  have h2 : two r = false := by simp [two, inR, rs2]; omega
  unfold wid; rw [h0, h2]; rfl
theorem arrow_flag {r : Nat} (h : flag r = true) : isArrow r = false := by
  have hr : (127462 : Int) ≤ r ∧ (r : Int) ≤ 127487 := by simpa [flag] using h
  simp [isArrow]; omega

theorem Grp.begin {l : List U.Tk} {frm : Nat} (h : frm < l.length) {z : G} (hz : z.c = ⟨pl l frm, 0, frm, frm, 0⟩) : Grp l frm (frm + 1) (add z (rune l frm) (lenAt l frm)) := by
  have e : add z (rune l frm) (lenAt l frm) = addF z (rune l frm) (lenAt l frm) := by unfold add; rw [hz]; rw [if_pos rfl]
  rw [e]
  refine ⟨Nat.lt_succ_self _, h, by simp [addF, hz], by simp [addF, hz], by simp [addF, hz], by simp [addF, hz, pl_succ l frm h], rfl, by simp [addF], rfl, ?_, fun k h1 h2 => by omega⟩
  show wid (rune l frm) = cellsOf l frm (frm + 1)
  unfold cellsOf
  rw [hasMark_one, Nat.add_sub_cancel_left]
  simp
theorem Grp.takes_joins {l : List U.Tk} {frm to : Nat} {g : G} (h : Grp l frm to g) : takes g (rune l to) = joins l frm to := by
  have hlt := h.lt
  unfold takes joins
  rw [h.first, h.last, h.frm_, h.to_]
  by_cases hf : flag (rune l to) = true
  · have hw := flag_wid hf
    rw [hf, hw]
    simp
    rw [Bool.and_comm]
    congr 1
    rw [Bool.eq_iff_iff]; simp; omega
  · rw [Bool.not_eq_true] at hf
    rw [hf]
    by_cases h0 : wid (rune l to) = 0
    · rw [h0]; simp
    · simp [h0]

theorem Grp.grow {l : List U.Tk} {frm to : Nat} {g : G} (h : Grp l frm to g) (ht : to < l.length) (hk : takes g (rune l to) = true) : Grp l frm (to + 1) (add g (rune l to) (lenAt l to)) := by
  have hlt := h.lt
  have e : add g (rune l to) (lenAt l to) = addM g (rune l to) (lenAt l to) := by unfold add; rw [if_neg (by rw [h.frm_, h.to_]; omega)]
  rw [e]
  refine ⟨by omega, ht, h.frm_, by simp [addM, h.to_], h.at_, ?_, h.first, by simp [addM], h.arrow, ?_, fun k h1 h2 => ?_⟩
  · simp only [addM]; have := h.len; rw [pl_succ l to ht]; omega
  case refine_3 =>
    by_cases e : k = to
    · subst e; rw [← h.takes_joins]; exact hk
    · exact h.joined k h1 (by omega)
  show (if flag (rune l to) || (g.arrow && decide (rune l to = 65039)) then 2 else g.c.cells) = cellsOf l frm (to + 1)
  rw [h.arrow, h.cells]
  unfold cellsOf
  rw [hasMark_succ l frm to hlt]
  by_cases hf : flag (rune l to) = true
  · have hw := flag_wid hf
    unfold takes at hk
    rw [if_neg (by rw [hw]; omega), hf, if_pos rfl, h.first, h.frm_, h.to_, Bool.and_eq_true, decide_eq_true_eq] at hk
    have : to = frm + 1 := by omega
    subst this
    rw [hf, hk.1, decide_eq_true (by omega : 1 < frm + 1 + 1 - frm)]
    rfl
  · rw [Bool.not_eq_true] at hf
    rw [hf]
    by_cases h1 : to = frm + 1
    · subst h1
      rw [hf, hasMark_one]
      simp
    · have d1 : decide (1 < to - frm) = true := decide_eq_true (by omega)
      have d2 : decide (1 < to + 1 - frm) = true := decide_eq_true (by omega)
      rw [d1, d2]
      by_cases h2 : flag (rune l frm) = true
      · rw [arrow_flag h2]; simp
      · rw [Bool.not_eq_true] at h2
        rw [h2]
        cases isArrow (rune l frm) <;> cases hasMark l frm to <;> cases decide (rune l to = 65039) <;> simp
theorem Grp.new_c {l : List U.Tk} {frm to : Nat} {g : G} (h : Grp l frm to g) : (new g).c = ⟨pl l to, 0, to, to, 0⟩ := by
  simp only [new, h.len, h.to_]

/-- The clusters lie one behind the other. -/
inductive Cov (l : List U.Tk) : Nat → List Cl → Prop
  | nil : Cov l l.length []
  | cons {frm to : Nat} {g : G} {cs : List Cl} : Grp l frm to g → (to < l.length → takes g (rune l to) = false) → Cov l to cs → Cov l frm (g.c :: cs)
theorem drop_at {l : List U.Tk} {k : Nat} (h : k < l.length) : l.drop k = (rune l k, lenAt l k) :: l.drop (k + 1) := by rw [List.drop_eq_getElem_cons h, tk_eq l k h]
theorem cov_run (l : List U.Tk) : ∀ (n frm to : Nat) (g : G), l.length - to = n → Grp l frm to g → Cov l frm ((run g (l.drop to)).1 ++ [(run g (l.drop to)).2.c]) := by
  intro n
  induction n with
  | zero =>
    intro frm to g hn h
    have : to = l.length := by have := h.le; omega
    subst this
    rw [List.drop_length]
    exact .cons h (fun hh => absurd hh (Nat.lt_irrefl _)) .nil
  | succ n ih =>
    intro frm to g hn h
    have ht : to < l.length := by omega
    rw [drop_at ht]
    simp only [run, step]
    by_cases hk : takes g (rune l to) = true
    · rw [hk]
      simp only [if_true, List.nil_append]
      exact ih frm (to + 1) _ (by omega) (h.grow ht hk)
    · rw [Bool.not_eq_true] at hk
      rw [hk]
      simp only [Bool.false_eq_true, if_false, List.cons_append, List.nil_append]
      exact .cons h (fun _ => hk) (ih to (to + 1) _ (by omega) (Grp.begin ht h.new_c))
theorem cov_clus (l : List U.Tk) : Cov l 0 (clus l) := by
  cases l with
  | nil => exact .nil
  | cons t l => exact cov_run (t :: l) _ 0 1 (add zero t.1 t.2) rfl (Grp.begin (l := t :: l) (frm := 0) (by simp) rfl)


/-- A group is what its ends make it. -/
theorem Grp.same {l : List U.Tk} {frm to : Nat} {g g' : G} (h : Grp l frm to g) (h' : Grp l frm to g') : g = g' := by
  have a1 := h.frm_.trans h'.frm_.symm
  have a2 := h.to_.trans h'.to_.symm
  have a3 := h.at_.trans h'.at_.symm
  have a4 := h.len.trans h'.len.symm
  have a5 := h.first.trans h'.first.symm
  have a6 := h.last.trans h'.last.symm
  have a7 := h.arrow.trans h'.arrow.symm
  have a8 := h.cells.trans h'.cells.symm
  obtain ⟨⟨q1, q2, q3, q4, q5⟩, q6, q7, q8⟩ := g
  obtain ⟨⟨r1, r2, r3, r4, r5⟩, r6, r7, r8⟩ := g'
  simp only at a1 a2 a3 a4 a5 a6 a7 a8
  subst a1 a2 a3 a5 a6 a7 a8
  have : q2 = r2 := by omega
  subst this
  rfl
theorem Grp.to_eq {l : List U.Tk} {frm to to' : Nat} {g g' : G} (h : Grp l frm to g) (h' : Grp l frm to' g') (e : to < l.length → takes g (rune l to) = false) (e' : to' < l.length → takes g' (rune l to') = false) : to = to' := by
  rcases Nat.lt_trichotomy to to' with hl | hl | hl
  · have := h'.joined to h.lt hl
    rw [← h.takes_joins, e (by have := h'.le; omega)] at this
    cases this
  · exact hl
  · have := h.joined to' h'.lt hl
    rw [← h'.takes_joins, e' (by have := h.le; omega)] at this
    cases this
theorem Cov.frm_le {l : List U.Tk} {frm : Nat} {cs : List Cl} (h : Cov l frm cs) : frm ≤ l.length := by
  cases h with
  | nil => exact Nat.le_refl _
  | cons h => have := h.lt; have := h.le; omega
theorem Cov.same {l : List U.Tk} {frm : Nat} {cs cs' : List Cl} (h : Cov l frm cs) (h' : Cov l frm cs') : cs = cs' := by
  induction h generalizing cs' with
  | nil =>
    cases h' with
    | nil => rfl
    | cons h => have := h.lt; have := h.le; omega
  | cons h e hc ih =>
    cases h' with
    | nil => have := h.lt; have := h.le; omega
    | cons h' e' hc' =>
      obtain rfl := h.to_eq h' e e'
      rw [h.same h', ih hc']

/-- Where the clusters from the k-th one on begin. -/
def start (l : List U.Tk) (cs : List Cl) (k : Nat) : Nat := (cs[k]?.map (·.frm)).getD l.length
theorem Cov.start_zero {l : List U.Tk} {frm : Nat} {cs : List Cl} (h : Cov l frm cs) : start l cs 0 = frm := by
  cases h with
  | nil => rfl
  | cons h => simp [start, h.frm_]
theorem Cov.drop {l : List U.Tk} {frm : Nat} {cs : List Cl} (h : Cov l frm cs) (k : Nat) (hk : k ≤ cs.length) : Cov l (start l cs k) (cs.drop k) := by
  induction k generalizing frm cs with
  | zero => rw [h.start_zero]; exact h
  | succ k ih =>
    cases h with
    | nil => simp at hk
    | cons h e hc =>
      have := ih hc (by simpa using hk)
      simpa [start] using this
/-- The k-th cluster. -/
theorem Cov.at_ {l : List U.Tk} {frm : Nat} {cs : List Cl} (h : Cov l frm cs) (k : Nat) (c : Cl) (hk : cs[k]? = some c) :
    ∃ g, g.c = c ∧ Grp l c.frm c.to_ g ∧ (c.to_ < l.length → takes g (rune l c.to_) = false) ∧ start l cs k = c.frm ∧ start l cs (k + 1) = c.to_ := by
  have hlt := (List.getElem?_eq_some_iff.1 hk).1
  have hd := h.drop k (by omega)
  have hd1 := h.drop (k + 1) hlt
  rw [List.drop_eq_getElem_cons hlt, (List.getElem?_eq_some_iff.1 hk).2] at hd
  have hs : start l cs k = c.frm := by simp [start, hk]
  rw [hs] at hd
  generalize cs.drop (k + 1) = ds at hd hd1
  generalize start l cs (k + 1) = b at hd1 ⊢
  obtain ⟨f, hf⟩ : ∃ f, c.frm = f := ⟨_, rfl⟩
  obtain ⟨xs, hxs⟩ : ∃ xs, c :: ds = xs := ⟨_, rfl⟩
  rw [hf, hxs] at hd
  cases hd with
  | nil => cases hxs
  | cons hg e hc =>
    rename_i to g cs'
    obtain ⟨rfl, rfl⟩ := List.cons.inj hxs
    obtain rfl := hg.to_
    subst hf
    exact ⟨g, rfl, hg, e, hs, by rw [← hd1.start_zero, ← hc.start_zero]⟩

/-- A part of a list at the front. -/
theorem take_rune (l : List U.Tk) (b k : Nat) (h : k < b) : rune (l.take b) k = rune l k := by simp [rune, h]
theorem take_pl (l : List U.Tk) (b k : Nat) (h : k ≤ b) : pl (l.take b) k = pl l k := by simp [pl, List.take_take, Nat.min_eq_left h]
theorem take_hasMark (l : List U.Tk) (b frm to : Nat) (h : to ≤ b) : hasMark (l.take b) frm to = hasMark l frm to := by
  unfold hasMark
  rw [Bool.eq_iff_iff, List.any_eq_true, List.any_eq_true]
  refine exists_congr fun i => and_congr_right fun hi => ?_
  rw [List.mem_range] at hi
  rw [take_rune l b i (by omega)]
theorem take_joins (l : List U.Tk) (b frm k : Nat) (h : k < b) (hf : frm < k) : joins (l.take b) frm k = joins l frm k := by
  unfold joins; rw [take_rune l b k h, take_rune l b frm (by omega), take_rune l b (k - 1) (by omega)]
theorem Grp.take {l : List U.Tk} {frm to b : Nat} {g : G} (h : Grp l frm to g) (hb : to ≤ b) : Grp (l.take b) frm to g := by
  have hlt := h.lt
  refine ⟨h.lt, by rw [List.length_take]; have := h.le; omega, h.frm_, h.to_, by rw [take_pl l b frm (by omega)]; exact h.at_, by rw [take_pl l b to hb]; exact h.len,
    by rw [take_rune l b frm (by omega)]; exact h.first, by rw [take_rune l b _ (by omega)]; exact h.last, by rw [take_rune l b frm (by omega)]; exact h.arrow, ?_,
    fun k h1 h2 => by rw [take_joins l b frm k (by omega) h1]; exact h.joined k h1 h2⟩
  rw [h.cells]
  unfold cellsOf
  rw [take_hasMark l b frm to hb, take_rune l b frm (by omega)]
  by_cases e : to = frm + 1
  · subst e; rw [Nat.add_sub_cancel_left]; simp
  · rw [take_rune l b (frm + 1) (by omega)]
theorem Cov.take {l : List U.Tk} {frm : Nat} {cs : List Cl} (h : Cov l frm cs) (k : Nat) (hk : k ≤ cs.length) : Cov (l.take (start l cs k)) frm (cs.take k) := by
  induction k generalizing frm cs with
  | zero =>
    rw [h.start_zero]
    have := h.frm_le
    have e : (l.take frm).length = frm := by rw [List.length_take]; omega
    have := Cov.nil (l := l.take frm)
    rwa [e] at this
  | succ k ih =>
    cases h with
    | nil => simp at hk
    | cons hg e hc =>
      have h1 := ih hc (by simpa using hk)
      rename_i to g cs
      show Cov (l.take (start l cs k)) frm (g.c :: cs.take k)
      have h3 := h1.frm_le
      rw [List.length_take] at h3
      refine .cons (hg.take (by omega)) (fun hh => ?_) h1
      rw [List.length_take] at hh
      rw [take_rune l _ _ (by omega)]
      exact e (by omega)

/-- A list's end by itself. -/
def sh (a n : Nat) (c : Cl) : Cl := ⟨c.at_ + a, c.len, c.frm + n, c.to_ + n, c.cells⟩
theorem drop_rune (l : List U.Tk) (b k : Nat) : rune (l.drop b) k = rune l (k + b) := by simp [rune, List.getElem?_drop, Nat.add_comm]
theorem drop_pl (l : List U.Tk) (b k : Nat) : pl (l.drop b) k + pl l b = pl l (k + b) := by
  unfold pl
  rw [Nat.add_comm k b, List.take_add, wsum_app, Nat.add_comm]
theorem drop_hasMark (l : List U.Tk) (b frm to : Nat) : hasMark (l.drop b) frm to = hasMark l (frm + b) (to + b) := by
  unfold hasMark
  rw [Bool.eq_iff_iff, List.any_eq_true, List.any_eq_true]
  simp only [List.mem_range, Bool.and_eq_true, decide_eq_true_eq, drop_rune]
  constructor
  · rintro ⟨i, h1, h2, h3⟩; exact ⟨i + b, by omega, by omega, h3⟩
  · rintro ⟨i, h1, h2, h3⟩; exact ⟨i - b, by omega, by omega, by rw [Nat.sub_add_cancel (by omega)]; exact h3⟩
theorem drop_joins (l : List U.Tk) (b frm k : Nat) (h : frm < k) : joins (l.drop b) frm k = joins l (frm + b) (k + b) := by
  unfold joins
  rw [drop_rune, drop_rune, drop_rune, show k - 1 + b = k + b - 1 by omega]
  have : decide (k = frm + 1) = decide (k + b = frm + b + 1) := by rw [Bool.eq_iff_iff]; simp; omega
  rw [this]
def shG (a n : Nat) (g : G) : G := ⟨sh a n g.c, g.first, g.last, g.arrow⟩
theorem takes_sh (a n : Nat) (g : G) (r : Nat) : takes (shG a n g) r = takes g r := by
  unfold takes shG sh
  simp only [Nat.add_sub_add_right]
theorem Grp.drop {l : List U.Tk} {frm to b : Nat} {g : G} (hb : b ≤ l.length) (h : Grp (l.drop b) frm to g) : Grp l (frm + b) (to + b) (shG (pl l b) b g) := by
  have hlt := h.lt
  have hle := h.le
  rw [List.length_drop] at hle
  have h1 := drop_pl l b frm
  have h2 := drop_pl l b to
  refine ⟨by omega, by omega, by simp [shG, sh, h.frm_], by simp [shG, sh, h.to_], by simp only [shG, sh]; rw [h.at_]; exact h1, by simp only [shG, sh]; have := h.len; omega,
    by rw [← drop_rune]; exact h.first, by rw [show to + b - 1 = to - 1 + b by omega, ← drop_rune]; exact h.last, by rw [← drop_rune]; exact h.arrow, ?_,
    fun k k1 k2 => by have := h.joined (k - b) (by omega) (by omega); rwa [drop_joins l b frm (k - b) (by omega), Nat.sub_add_cancel (by omega)] at this⟩
  show g.c.cells = _
  rw [h.cells]
  unfold cellsOf
  rw [drop_rune, drop_rune, drop_hasMark, show frm + 1 + b = frm + b + 1 by omega, show to + b - (frm + b) = to - frm by omega]
theorem Cov.of_drop {l : List U.Tk} {b : Nat} (hb : b ≤ l.length) {frm : Nat} {cs : List Cl} (h : Cov (l.drop b) frm cs) : Cov l (frm + b) (cs.map (sh (pl l b) b)) := by
  induction h with
  | nil => rw [List.length_drop, Nat.sub_add_cancel hb]; exact .nil
  | cons hg e hc ih =>
    have := Cov.cons (hg.drop hb) (fun hh => by rw [takes_sh, ← drop_rune]; exact e (by rw [List.length_drop]; omega)) ih
    exact this
/-- The clusters of the front up to a cluster's begin, and of the rest. -/
theorem clus_take (l : List U.Tk) (k : Nat) (hk : k ≤ (clus l).length) : clus (l.take (start l (clus l) k)) = (clus l).take k := (cov_clus _).same ((cov_clus l).take k hk)
theorem clus_drop (l : List U.Tk) (k : Nat) (hk : k ≤ (clus l).length) : (clus (l.drop (start l (clus l) k))).map (sh (pl l (start l (clus l) k)) (start l (clus l) k)) = (clus l).drop k := by
  have h := (cov_clus l).drop k hk
  have h2 := (cov_clus (l.drop (start l (clus l) k))).of_drop h.frm_le
  rw [Nat.zero_add] at h2
  exact h2.same h
/-- What stands behind changes no cluster but the last. -/
theorem clus_behind (a b : List U.Tk) : (clus a).length ≤ (clus (a ++ b)).length ∧ ∀ i, i + 1 < (clus a).length → (clus a)[i]? = (clus (a ++ b))[i]? := by
  cases a with
  | nil => exact ⟨Nat.zero_le _, fun i h => by simp [clus] at h⟩
  | cons t a =>
    simp only [clus, List.cons_append, run_append]
    refine ⟨by simp only [List.length_append, List.length_cons, List.length_nil]; omega, fun i h => ?_⟩
    simp only [List.length_append, List.length_cons, List.length_nil] at h
    rw [List.getElem?_append_left (by omega), List.append_assoc, List.getElem?_append_left (by omega)]
theorem ctl_wid {r : Int} (h : ctl r = true) : wid r = 0 := by
  have h0 : no r = true := by
    simp [ctl, inR, rsC] at h
    simp [no, inR, rs0]
    omega
  unfold wid; rw [h0]; rfl
theorem ctl_flag {r : Int} (h : ctl r = true) : flag r = false := by
  cases hf : flag r with
  | false => rfl
  | true => have := flag_wid hf; rw [ctl_wid h] at this; cases this
/-- Nothing joins a sign that stands alone; none of these joins. -/
theorem joins_ctl {l : List U.Tk} {frm k : Nat} (h : joins l frm k = true) : ctl (rune l frm) = false ∧ ctl (rune l k) = false := by
  constructor
  · cases hc : ctl (rune l frm) with
    | false => rfl
    | true =>
      unfold joins at h
      rw [hc, ctl_wid hc, ctl_flag hc] at h
      simp at h
  · cases hc : ctl (rune l k) with
    | false => rfl
    | true =>
      unfold joins at h
      rw [hc, ctl_wid hc, ctl_flag hc] at h
      simp at h

/-- What has been handed on, and the group, behind so many signs; has one begun? -/
def pst : List U.Tk → List Cl × G × Bool
  | [] => ([], zero, false)
  | t :: d => ((run (add zero t.1 t.2) d).1, (run (add zero t.1 t.2) d).2, true)
theorem pst_one (t : U.Tk) : pst [t] = ([], add zero t.1 t.2, true) := rfl
theorem pst_snoc (d : List U.Tk) (t : U.Tk) (hd : d ≠ []) : pst (d ++ [t]) = ((pst d).1 ++ (step (pst d).2.1 t).1, (step (pst d).2.1 t).2, true) := by
  cases d with
  | nil => exact absurd rfl hd
  | cons x d => simp only [List.cons_append, pst, run_snoc]
theorem pst_begun {d : List U.Tk} (hd : d ≠ []) : (pst d).2.2 = true := by
  cases d with
  | nil => exact absurd rfl hd
  | cons => rfl
theorem clus_pst {d : List U.Tk} (hd : d ≠ []) : clus d = (pst d).1 ++ [(pst d).2.1.c] := by
  cases d with
  | nil => exact absurd rfl hd
  | cons => rfl
theorem grp_pst (l : List U.Tk) : ∀ (n : Nat), 0 < n → n ≤ l.length → ∃ frm, Grp l frm n (pst (l.take n)).2.1 := by
  intro n
  induction n with
  | zero => intro h; omega
  | succ n ih =>
    intro _ hn
    by_cases h0 : n = 0
    · subst h0
      have : l.take 1 = [(rune l 0, lenAt l 0)] := by
        have := drop_at (l := l) (k := 0) (by omega)
        rw [List.drop_zero] at this
        rw [this]; rfl
      refine ⟨0, ?_⟩
      rw [this, pst_one]
      exact Grp.begin (l := l) (frm := 0) (z := zero) (by omega) rfl
    · obtain ⟨frm, h⟩ := ih (by omega) (by omega)
      have e : l.take (n + 1) = l.take n ++ [(rune l n, lenAt l n)] := by
        rw [List.take_add_one, List.getElem?_eq_getElem (by omega), tk_eq l n (by omega)]; rfl
      have hne : l.take n ≠ [] := by
        intro hh
        rcases List.take_eq_nil_iff.1 hh with h | h
        · exact h0 h
        · subst h; simp at hn
      rw [e, pst_snoc _ _ hne]
      simp only [step]
      by_cases hk : takes (pst (l.take n)).2.1 (rune l n) = true
      · rw [if_pos hk]; exact ⟨frm, h.grow (by omega) hk⟩
      · rw [if_neg hk]; exact ⟨n, Grp.begin (by omega) h.new_c⟩
/-- Behind a front: what was handed on, then the clusters of the group and what follows. -/
theorem clus_front (d : List U.Tk) (t : U.Tk) (r : List U.Tk) (hd : d ≠ []) (hk : takes (pst d).2.1 t.1 = false) : ∃ post, clus (d ++ t :: r) = (pst d).1 ++ (pst d).2.1.c :: post := by
  cases d with
  | nil => exact absurd rfl hd
  | cons x d =>
    simp only [pst] at hk ⊢
    simp only [List.cons_append, clus, run_append, run, step, hk]
    simp only [Bool.false_eq_true, if_false, List.append_assoc, List.cons_append, List.nil_append]
    exact ⟨_, rfl⟩
end Go.Proofs.Ytclblidfamabdaa.C
