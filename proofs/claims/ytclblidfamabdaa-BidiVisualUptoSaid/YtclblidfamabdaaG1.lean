/- What the signs of any bytes are, in plain lists: no program stands here. -/
import Derived.Lib.DecodeN
import Derived.RangeFuncNested
import Derived.RangeFuncLeaves
import Derived.Below
import Derived.Deep.Draws
import Derived.Test.YtclblidfamabdaaProg
import Derived.WalkKit
import Derived.Laws.RangeString
import Derived.Laws.RangeAny
import Derived.Lib.OthersKept
import Derived.Outline
import Derived.Deep.DeepMust
import Derived.Lib.Hide
import Derived.Lib.Strings
import Derived.WalkSmall
import Derived.Maps.AppendAt
import Derived.OwnWalk
import Derived.OwnWalkIn
import Derived.TacticsInMore
import Derived.LoopNIn
import Derived.LoopIn
import Derived.Shelf.Abstract
import Derived.Shelf.RegionOpen
import Derived.RangeFuncBox
import Derived.Shelf.Strings.BuilderRune
set_option linter.unusedVariables false
namespace Go.Proofs.Ytclblidfamabdaa.U

/-- The least second byte behind a first one. -/
def lo2 (b0 : Nat) : Nat := if b0 = 224 then 160 else if b0 = 240 then 144 else 128
/-- The greatest one. -/
def hi2 (b0 : Nat) : Nat := if b0 = 237 then 159 else if b0 = 244 then 143 else 191

/-- The rune, and of how many bytes, of a text of n bytes that begins with these (beyond its end: whatever). -/
def decM (n b0 b1 b2 b3 : Nat) : Nat × Nat :=
  if b0 < 128 then (b0, 1)
  else if 194 ≤ b0 ∧ b0 ≤ 223 ∧ 2 ≤ n ∧ 128 ≤ b1 ∧ b1 ≤ 191 then ((b0 - 192) * 64 + (b1 - 128), 2)
  else if 224 ≤ b0 ∧ b0 ≤ 239 ∧ 3 ≤ n ∧ lo2 b0 ≤ b1 ∧ b1 ≤ hi2 b0 ∧ 128 ≤ b2 ∧ b2 ≤ 191 then ((b0 - 224) * 4096 + (b1 - 128) * 64 + (b2 - 128), 3)
  else if 240 ≤ b0 ∧ b0 ≤ 244 ∧ 4 ≤ n ∧ lo2 b0 ≤ b1 ∧ b1 ≤ hi2 b0 ∧ 128 ≤ b2 ∧ b2 ≤ 191 ∧ 128 ≤ b3 ∧ b3 ≤ 191 then
    ((b0 - 240) * 262144 + (b1 - 128) * 4096 + (b2 - 128) * 64 + (b3 - 128), 4)
  else (65533, 1)

theorem lo2_is (b : Nat) : 128 ≤ lo2 b ∧ lo2 b ≤ 160 ∧ (b = 224 → lo2 b = 160) ∧ (b = 240 → lo2 b = 144) ∧ (b ≠ 224 → b ≠ 240 → lo2 b = 128) := by
  unfold lo2
  split
  · omega
  · split <;> omega
theorem hi2_is (b : Nat) : 143 ≤ hi2 b ∧ hi2 b ≤ 191 ∧ (b = 237 → hi2 b = 159) ∧ (b = 244 → hi2 b = 143) ∧ (b ≠ 237 → b ≠ 244 → hi2 b = 191) := by
  unfold hi2
  split
  · omega
  · split <;> omega
theorem pair_eq {a b : Nat} (c : Nat) (h : a = b) : (a, c) = (b, c) := by rw [h]

theorem decN_eq (n b0 b1 b2 b3 : Nat) (h0 : b0 < 256) (h1 : b1 < 256) (h2 : b2 < 256) (h3 : b3 < 256) (hn : 1 ≤ n) : Lib.decodeN n b0 b1 b2 b3 = decM n b0 b1 b2 b3 := by
  have hl2 := lo2_is b0
  have hh2 := hi2_is b0
  unfold Lib.decodeN decM
  generalize lo2 b0 = lo at hl2 ⊢
  generalize hi2 b0 = hi at hh2 ⊢
  by_cases c0 : b0 < 128
  · rw [if_pos c0, if_pos c0]
  rw [if_neg c0, if_neg c0]
  by_cases c1 : b0 / 32 = 6
  · rw [if_neg (c := b0 / 16 = 14 ∧ _) (by omega), if_neg (c := b0 / 8 = 30 ∧ _) (by omega), if_neg (c := 224 ≤ b0 ∧ _) (by omega), if_neg (c := 240 ≤ b0 ∧ _) (by omega)]
    by_cases hc : 194 ≤ b0 ∧ b0 ≤ 223 ∧ 2 ≤ n ∧ 128 ≤ b1 ∧ b1 ≤ 191
    · rw [if_pos hc, if_pos ⟨c1, by omega, by omega⟩, if_pos (by omega)]
      exact pair_eq _ (by omega)
    · rw [if_neg hc]
      by_cases hd : 1 < n ∧ b1 / 64 = 2
      · rw [if_pos ⟨c1, hd⟩, if_neg (by omega)]
      · rw [if_neg (fun h => hd h.2)]
  rw [if_neg (c := b0 / 32 = 6 ∧ _) (fun h => c1 h.1), if_neg (c := 194 ≤ b0 ∧ _) (by omega)]
  by_cases c2 : b0 / 16 = 14
  · rw [if_neg (c := b0 / 8 = 30 ∧ _) (by omega), if_neg (c := 240 ≤ b0 ∧ _) (by omega)]
    by_cases hc : 224 ≤ b0 ∧ b0 ≤ 239 ∧ 3 ≤ n ∧ lo ≤ b1 ∧ b1 ≤ hi ∧ 128 ≤ b2 ∧ b2 ≤ 191
    · rw [if_pos hc]
      rw [if_pos ⟨c2, by omega, by omega⟩, if_pos (by omega)]
      exact pair_eq _ (by omega)
    · rw [if_neg hc]
      by_cases hd : (1 < n ∧ b1 / 64 = 2) ∧ (2 < n ∧ b2 / 64 = 2)
      · rw [if_pos ⟨c2, hd⟩, if_neg]
        intro hv
        refine hc ⟨by omega, by omega, by omega, by omega, by omega, by omega, by omega⟩
      · rw [if_neg (fun h => hd h.2)]
  rw [if_neg (c := b0 / 16 = 14 ∧ _) (fun h => c2 h.1), if_neg (c := 224 ≤ b0 ∧ _) (by omega)]
  by_cases c3 : b0 / 8 = 30
  · by_cases hc : 240 ≤ b0 ∧ b0 ≤ 244 ∧ 4 ≤ n ∧ lo ≤ b1 ∧ b1 ≤ hi ∧ 128 ≤ b2 ∧ b2 ≤ 191 ∧ 128 ≤ b3 ∧ b3 ≤ 191
    · rw [if_pos hc]
      rw [if_pos ⟨c3, by omega, by omega, by omega⟩, if_pos (by omega)]
      exact pair_eq _ (by omega)
    · rw [if_neg hc]
      by_cases hd : (1 < n ∧ b1 / 64 = 2) ∧ (2 < n ∧ b2 / 64 = 2) ∧ (3 < n ∧ b3 / 64 = 2)
      · rw [if_pos ⟨c3, hd⟩, if_neg]
        intro hv
        refine hc ⟨by omega, by omega, by omega, by omega, by omega, by omega, by omega, by omega, by omega⟩
      · rw [if_neg (fun h => hd h.2)]
  · rw [if_neg (fun h => c3 h.1), if_neg (by omega)]

/-- Byte j of a list, 0 behind its end. -/
def by_ (l : List UInt8) (j : Nat) : Nat := (l.getD j 0).toNat
theorem by_lt (l : List UInt8) (j : Nat) : by_ l j < 256 := (l.getD j 0).toNat_lt

def dec (l : List UInt8) : Nat × Nat := decM l.length (by_ l 0) (by_ l 1) (by_ l 2) (by_ l 3)

theorem get!_eq (s : ByteArray) (i : Nat) : s.get! i = s.data.toList.getD i 0 := by
  cases s with
  | mk a =>
    show a[i]! = _
    rw [Array.getElem!_eq_getD, List.getD_eq_getElem?_getD, Array.getElem?_toList, Array.getD_eq_getD_getElem?]
    rfl

theorem size_eq (s : ByteArray) : s.size = s.data.toList.length := by rw [Array.length_toList]; rfl

/-- The model's own, at a place. -/
theorem decode_eq (s : ByteArray) (i : Nat) (h : i < s.size) : Utf8.decode s i = dec (s.data.toList.drop i) := by
  have e : ∀ k, (s.get! (i + k)).toNat = by_ (s.data.toList.drop i) k := fun k => by
    rw [get!_eq]; unfold by_; simp [List.getD_eq_getElem?_getD, List.getElem?_drop]
  rw [Lib.decode_at, show s.get! i = s.get! (i + 0) from rfl, e 0, e 1, e 2, e 3, decN_eq _ _ _ _ _ (by_lt _ _) (by_lt _ _) (by_lt _ _) (by_lt _ _) (by omega)]
  unfold dec
  rw [size_eq, List.length_drop]

theorem decM_facts (n b0 b1 b2 b3 : Nat) (h1 : b1 < 256) (hn : 1 ≤ n) :
    1 ≤ (decM n b0 b1 b2 b3).2 ∧ (decM n b0 b1 b2 b3).2 ≤ 4 ∧ (decM n b0 b1 b2 b3).2 ≤ n ∧ (decM n b0 b1 b2 b3).1 ≤ 1114111 ∧ ((decM n b0 b1 b2 b3).1 < 55296 ∨ 57344 ≤ (decM n b0 b1 b2 b3).1) := by
  have hl2 := lo2_is b0
  have hh2 := hi2_is b0
  unfold decM
  repeat' split
  all_goals (simp only; omega)

theorem dec_facts (l : List UInt8) (h : l ≠ []) : 1 ≤ (dec l).2 ∧ (dec l).2 ≤ 4 ∧ (dec l).2 ≤ l.length ∧ (dec l).1 ≤ 1114111 ∧ ((dec l).1 < 55296 ∨ 57344 ≤ (dec l).1) :=
  decM_facts _ _ _ _ _ (by_lt _ _) (by cases l with | nil => exact absurd rfl h | cons => simp)

/-- A sign's bytes and rune, without its place. -/
abbrev Tk := Nat × Nat

def tokF : Nat → List UInt8 → List Tk
  | 0, _ => []
  | _ + 1, [] => []
  | f + 1, b :: l => dec (b :: l) :: tokF f ((b :: l).drop (dec (b :: l)).2)

def toks (l : List UInt8) : List Tk := tokF l.length l

theorem tokF_more : ∀ (f : Nat) (l : List UInt8), l.length ≤ f → tokF f l = tokF l.length l := by
  intro f
  induction f using Nat.strongRecOn with
  | ind f ih =>
    intro l hl
    cases l with
    | nil => cases f <;> rfl
    | cons b l =>
      cases f with
      | zero => simp at hl
      | succ f =>
        have hd := dec_facts (b :: l) (by simp)
        simp only [List.length_cons, tokF] at hl hd ⊢
        have h1 : ((b :: l).drop (dec (b :: l)).2).length ≤ l.length := by simp only [List.length_drop, List.length_cons]; omega
        rw [ih f (by omega) _ (by omega)]
        by_cases e : f = l.length
        · subst e; rw [ih l.length (by omega) _ h1]
        · rw [ih l.length (by omega) _ h1]

theorem toks_nil : toks [] = [] := rfl
theorem toks_cons (b : UInt8) (l : List UInt8) : toks (b :: l) = dec (b :: l) :: toks ((b :: l).drop (dec (b :: l)).2) := by
  have hd := dec_facts (b :: l) (by simp)
  simp only [List.length_cons] at hd
  show dec (b :: l) :: tokF l.length _ = _
  rw [tokF_more l.length _ (by simp only [List.length_drop, List.length_cons]; omega)]
  rfl
theorem toks_ne (l : List UInt8) (h : l ≠ []) : toks l = dec l :: toks (l.drop (dec l).2) := by
  cases l with
  | nil => exact absurd rfl h
  | cons b l => exact toks_cons b l
theorem toks_eq_nil {l : List UInt8} (h : toks l = []) : l = [] := by
  cases l with
  | nil => rfl
  | cons b l => rw [toks_cons] at h; cases h

/-- Over all ends of a text, one sign less each. -/
theorem toks_ind {p : List UInt8 → Prop} (h0 : p []) (h1 : ∀ l, l ≠ [] → p (l.drop (dec l).2) → p l) : ∀ l, p l := by
  have : ∀ (n : Nat) (l : List UInt8), l.length ≤ n → p l := by
    intro n
    induction n with
    | zero => intro l hl; cases l with | nil => exact h0 | cons => simp at hl
    | succ n ih =>
      intro l hl
      cases l with
      | nil => exact h0
      | cons b l =>
        have hd := dec_facts (b :: l) (by simp)
        exact h1 _ (by simp) (ih _ (by simp only [List.length_drop]; omega))
  exact fun l => this l.length l (Nat.le_refl _)

theorem toks_length_le (l : List UInt8) : (toks l).length ≤ l.length := by
  refine toks_ind (p := fun l => (toks l).length ≤ l.length) (by simp [toks_nil]) (fun l h ih => ?_) l
  have hd := dec_facts l h
  show (toks l).length ≤ l.length
  rw [toks_ne l h, List.length_cons]
  simp only [List.length_drop] at ih
  omega

/-- How many bytes, all together. -/
def wsum (l : List Tk) : Nat := (l.map (·.2)).sum
theorem wsum_toks (l : List UInt8) : wsum (toks l) = l.length := by
  refine toks_ind (p := fun l => wsum (toks l) = l.length) rfl (fun l h ih => ?_) l
  have hd := dec_facts l h
  show wsum (toks l) = l.length
  rw [toks_ne l h]
  simp only [wsum, List.map_cons, List.sum_cons, List.length_drop] at ih ⊢
  omega

/-- A sign as it is told: its place, its bytes, its rune, is it a bad one. -/
structure Sg where
  at_ : Nat
  len : Nat
  rune : Nat
  bad : Bool
  deriving DecidableEq

def isBad (t : Tk) : Bool := t.1 == 65533 && t.2 == 1
def put (a : Nat) : List Tk → List Sg
  | [] => []
  | t :: l => ⟨a, t.2, t.1, isBad t⟩ :: put (a + t.2) l
def signs (l : List UInt8) : List Sg := put 0 (toks l)

theorem put_length (a : Nat) (l : List Tk) : (put a l).length = l.length := by
  induction l generalizing a with
  | nil => rfl
  | cons t l ih => simp [put, ih]
theorem put_append (a : Nat) (l r : List Tk) : put a (l ++ r) = put a l ++ put (a + wsum l) r := by
  induction l generalizing a with
  | nil => simp [put, wsum]
  | cons t l ih => simp [put, ih, wsum, Nat.add_assoc]
theorem toks_fact (l : List UInt8) : ∀ t ∈ toks l, 1 ≤ t.2 ∧ t.2 ≤ 4 ∧ t.1 ≤ 1114111 ∧ (t.1 < 55296 ∨ 57344 ≤ t.1) := by
  refine toks_ind (p := fun l => ∀ t ∈ toks l, 1 ≤ t.2 ∧ t.2 ≤ 4 ∧ t.1 ≤ 1114111 ∧ (t.1 < 55296 ∨ 57344 ≤ t.1)) (by simp [toks_nil]) (fun l h ih => ?_) l
  intro t ht
  have hd := dec_facts l h
  rw [toks_ne l h, List.mem_cons] at ht
  rcases ht with rfl | ht
  · omega
  · exact ih t ht
theorem put_mem {a : Nat} {l : List Tk} {x : Sg} (h : x ∈ put a l) : (x.rune, x.len) ∈ l ∧ x.bad = isBad (x.rune, x.len) := by
  induction l generalizing a with
  | nil => cases h
  | cons t l ih =>
    simp only [put, List.mem_cons] at h
    rcases h with rfl | h
    · exact ⟨List.mem_cons_self, rfl⟩
    · exact ⟨List.mem_cons_of_mem _ (ih h).1, (ih h).2⟩
theorem signs_rune (l : List UInt8) : ∀ x ∈ signs l, x.rune ≤ 1114111 := fun x hx => (toks_fact l _ (put_mem hx).1).2.2.1
theorem signs_length_le (l : List UInt8) : (signs l).length ≤ l.length := by rw [signs, put_length]; exact toks_length_le l

/-- Of how many bytes the encoding is that a byte begins, 0: none. -/
def long (c : Nat) : Nat := if c < 128 then 1 else if 194 ≤ c ∧ c ≤ 223 then 2 else if 224 ≤ c ∧ c ≤ 239 then 3 else if 240 ≤ c ∧ c ≤ 244 then 4 else 0
def snd (c d : Nat) : Bool := decide (lo2 c ≤ d ∧ d ≤ hi2 c)
def cont (d : Nat) : Bool := decide (128 ≤ d ∧ d ≤ 191)

/-- The same, by the first byte's length. -/
theorem decM_long (n b0 b1 b2 b3 : Nat) : decM n b0 b1 b2 b3 =
    if long b0 = 1 then (b0, 1)
    else if long b0 = 0 then (65533, 1)
    else if n < 2 ∨ snd b0 b1 = false then (65533, 1)
    else if long b0 = 2 then ((b0 - 192) * 64 + (b1 - 128), 2)
    else if n < 3 ∨ cont b2 = false then (65533, 1)
    else if long b0 = 3 then ((b0 - 224) * 4096 + (b1 - 128) * 64 + (b2 - 128), 3)
    else if n < 4 ∨ cont b3 = false then (65533, 1)
    else ((b0 - 240) * 262144 + (b1 - 128) * 4096 + (b2 - 128) * 64 + (b3 - 128), 4) := by
  have hl2 := lo2_is b0
  have hh2 := hi2_is b0
  have es : snd b0 b1 = false ↔ ¬ (lo2 b0 ≤ b1 ∧ b1 ≤ hi2 b0) := by unfold snd; exact decide_eq_false_iff_not
  have e2 : cont b2 = false ↔ ¬ (128 ≤ b2 ∧ b2 ≤ 191) := by unfold cont; exact decide_eq_false_iff_not
  have e3 : cont b3 = false ↔ ¬ (128 ≤ b3 ∧ b3 ≤ 191) := by unfold cont; exact decide_eq_false_iff_not
  simp only [es, e2, e3]
  unfold decM
  by_cases c0 : b0 < 128
  · have l1 : long b0 = 1 := by unfold long; rw [if_pos c0]
    rw [if_pos c0, if_pos l1]
  rw [if_neg c0]
  by_cases c1 : 194 ≤ b0 ∧ b0 ≤ 223
  · have l1 : long b0 = 2 := by unfold long; rw [if_neg c0, if_pos c1]
    rw [l1, if_neg (by omega : ¬ (2 : Nat) = 1), if_neg (by omega : ¬ (2 : Nat) = 0), if_pos (rfl : (2 : Nat) = 2)]
    by_cases k : n < 2 ∨ ¬ (lo2 b0 ≤ b1 ∧ b1 ≤ hi2 b0)
    · rw [if_pos k, if_neg (by omega), if_neg (by omega), if_neg (by omega)]
    · rw [if_neg k, if_pos (by omega)]
  by_cases c2 : 224 ≤ b0 ∧ b0 ≤ 239
  · have l1 : long b0 = 3 := by unfold long; rw [if_neg c0, if_neg c1, if_pos c2]
    rw [l1, if_neg (by omega : ¬ (3 : Nat) = 1), if_neg (by omega : ¬ (3 : Nat) = 0), if_neg (by omega : ¬ (3 : Nat) = 2), if_pos (rfl : (3 : Nat) = 3), if_neg (by omega)]
    by_cases k : n < 2 ∨ ¬ (lo2 b0 ≤ b1 ∧ b1 ≤ hi2 b0)
    · rw [if_pos k, if_neg (by omega), if_neg (by omega)]
    rw [if_neg k]
    by_cases k2 : n < 3 ∨ ¬ (128 ≤ b2 ∧ b2 ≤ 191)
    · rw [if_pos k2, if_neg (by omega), if_neg (by omega)]
    · rw [if_neg k2, if_pos (by omega)]
  by_cases c3 : 240 ≤ b0 ∧ b0 ≤ 244
  · have l1 : long b0 = 4 := by unfold long; rw [if_neg c0, if_neg c1, if_neg c2, if_pos c3]
    rw [l1, if_neg (by omega : ¬ (4 : Nat) = 1), if_neg (by omega : ¬ (4 : Nat) = 0), if_neg (by omega : ¬ (4 : Nat) = 2), if_neg (by omega : ¬ (4 : Nat) = 3), if_neg (c := 194 ≤ b0 ∧ _) (by omega), if_neg (c := 224 ≤ b0 ∧ _) (by omega)]
    by_cases k : n < 2 ∨ ¬ (lo2 b0 ≤ b1 ∧ b1 ≤ hi2 b0)
    · rw [if_pos k, if_neg (by omega)]
    rw [if_neg k]
    by_cases k2 : n < 3 ∨ ¬ (128 ≤ b2 ∧ b2 ≤ 191)
    · rw [if_pos k2, if_neg (by omega)]
    rw [if_neg k2]
    by_cases k3 : n < 4 ∨ ¬ (128 ≤ b3 ∧ b3 ≤ 191)
    · rw [if_pos k3, if_neg (by omega)]
    · rw [if_neg k3, if_pos (by omega)]
  · have l1 : long b0 = 0 := by unfold long; rw [if_neg c0, if_neg c1, if_neg c2, if_neg c3]
    rw [l1, if_neg (by omega : ¬ (0 : Nat) = 1), if_pos (rfl : (0 : Nat) = 0), if_neg (by omega), if_neg (by omega), if_neg (by omega)]

/-- Units of UTF-16 of a rune. -/
def un (c : Nat) : Nat := if c < 65536 then 1 else 2
/-- How much of a unit (1: bytes, 2: signs, 3: units of UTF-16) a sign has. -/
def szu (u : Nat) (t : Tk) : Nat := if u = 1 then t.2 else if u = 3 then un t.1 else 1
def usum (u : Nat) (l : List Tk) : Nat := (l.map (szu u)).sum

/-- From one unit to another: how far it comes, in both, to be at a place or beyond. -/
def plc (f t at_ : Nat) : Nat → Nat → List Tk → Nat × Nat
  | h, th, [] => (h, th)
  | h, th, x :: l => if at_ ≤ h then (h, th) else plc f t at_ (h + szu f x) (th + szu t x) l
/-- The place in the other unit, and 0; or 0 and why not: 21 within, 1 no place. -/
def place (f t at_ : Nat) (l : List Tk) : Nat × Nat :=
  if (plc f t at_ 0 0 l).1 = at_ then ((plc f t at_ 0 0 l).2, 0) else if at_ < (plc f t at_ 0 0 l).1 then (0, 21) else (0, 1)

/-- utf8.RuneLen of a rune that has an encoding. -/
def rlen (c : Nat) : Nat := if c < 128 then 1 else if c < 2048 then 2 else if c < 65536 then 3 else 4

theorem decM_rlen (n b0 b1 b2 b3 : Nat) (h1 : b1 < 256) (h : (decM n b0 b1 b2 b3).1 ≠ 65533) : rlen (decM n b0 b1 b2 b3).1 = (decM n b0 b1 b2 b3).2 := by
  have hl2 := lo2_is b0
  have hh2 := hi2_is b0
  revert h
  unfold decM rlen
  by_cases c0 : b0 < 128
  · rw [if_pos c0]
    intro _
    simp only
    rw [if_pos c0]
  rw [if_neg c0]
  by_cases c1 : 194 ≤ b0 ∧ b0 ≤ 223 ∧ 2 ≤ n ∧ 128 ≤ b1 ∧ b1 ≤ 191
  · rw [if_pos c1]
    intro _
    simp only
    rw [if_neg (by omega), if_pos (by omega)]
  rw [if_neg c1]
  by_cases c2 : 224 ≤ b0 ∧ b0 ≤ 239 ∧ 3 ≤ n ∧ lo2 b0 ≤ b1 ∧ b1 ≤ hi2 b0 ∧ 128 ≤ b2 ∧ b2 ≤ 191
  · rw [if_pos c2]
    intro _
    simp only
    rw [if_neg (by omega), if_neg (by omega), if_pos (by omega)]
  rw [if_neg c2]
  by_cases c3 : 240 ≤ b0 ∧ b0 ≤ 244 ∧ 4 ≤ n ∧ lo2 b0 ≤ b1 ∧ b1 ≤ hi2 b0 ∧ 128 ≤ b2 ∧ b2 ≤ 191 ∧ 128 ≤ b3 ∧ b3 ≤ 191
  · rw [if_pos c3]
    intro _
    simp only
    rw [if_neg (by omega), if_neg (by omega), if_neg (by omega)]
  rw [if_neg c3]
  intro h
  exact absurd rfl h
theorem dec_rlen (l : List UInt8) (h : (dec l).1 ≠ 65533) : rlen (dec l).1 = (dec l).2 := decM_rlen _ _ _ _ _ (by_lt _ _) h

theorem decM_bad (n b0 b1 b2 b3 : Nat) (h0 : b0 < 256) (h1 : b1 < 256) (h2 : b2 < 256) (h : (decM n b0 b1 b2 b3).1 = 65533) :
    ((decM n b0 b1 b2 b3).2 = 3 ∧ 3 ≤ n ∧ b0 = 239 ∧ b1 = 191 ∧ b2 = 189) ∨ ((decM n b0 b1 b2 b3).2 = 1 ∧ ¬ (3 ≤ n ∧ b0 = 239 ∧ b1 = 191 ∧ b2 = 189) ∧ 128 ≤ b0) := by
  have hl2 := lo2_is b0
  have hh2 := hi2_is b0
  revert h
  unfold decM
  by_cases c0 : b0 < 128
  · rw [if_pos c0]
    intro h
    replace h : _ = _ := h
    simp only at h ⊢
    omega
  rw [if_neg c0]
  by_cases c1 : 194 ≤ b0 ∧ b0 ≤ 223 ∧ 2 ≤ n ∧ 128 ≤ b1 ∧ b1 ≤ 191
  · rw [if_pos c1]
    intro h
    replace h : _ = _ := h
    simp only at h ⊢
    omega
  rw [if_neg c1]
  by_cases c2 : 224 ≤ b0 ∧ b0 ≤ 239 ∧ 3 ≤ n ∧ lo2 b0 ≤ b1 ∧ b1 ≤ hi2 b0 ∧ 128 ≤ b2 ∧ b2 ≤ 191
  · rw [if_pos c2]
    intro h
    replace h : _ = _ := h
    simp only at h
    have k1 : 128 ≤ b1 ∧ b1 ≤ 191 := by omega
    exact .inl ⟨rfl, by omega, by omega, by omega, by omega⟩
  rw [if_neg c2]
  by_cases c3 : 240 ≤ b0 ∧ b0 ≤ 244 ∧ 4 ≤ n ∧ lo2 b0 ≤ b1 ∧ b1 ≤ hi2 b0 ∧ 128 ≤ b2 ∧ b2 ≤ 191 ∧ 128 ≤ b3 ∧ b3 ≤ 191
  · rw [if_pos c3]
    intro h
    replace h : _ = _ := h
    simp only at h ⊢
    omega
  rw [if_neg c3]
  intro _
  exact .inr ⟨rfl, by omega, by omega⟩

theorem take3 (l : List UInt8) : l.take 3 = [239, 191, 189] ↔ 3 ≤ l.length ∧ by_ l 0 = 239 ∧ by_ l 1 = 191 ∧ by_ l 2 = 189 := by
  have ev : ∀ (b : UInt8) (n : Nat), n < 256 → (b = UInt8.ofNat n ↔ b.toNat = n) := fun b n hn => by
    constructor
    · intro h; rw [h, UInt8.toNat_ofNat']; omega
    · intro h; rw [← UInt8.toNat_inj, h, UInt8.toNat_ofNat']; omega
  rcases l with _ | ⟨a, _ | ⟨b, _ | ⟨c, r⟩⟩⟩
  · simp
  · simp
  · simp
  · have e1 := ev a 239 (by omega)
    have e2 := ev b 191 (by omega)
    have e3 := ev c 189 (by omega)
    simp only [List.take_succ_cons, List.take_zero, List.cons.injEq, and_true, List.length_cons, by_, List.getD_cons_zero, List.getD_cons_succ]
    constructor
    · rintro ⟨h1, h2, h3⟩
      exact ⟨by omega, e1.1 h1, e2.1 h2, e3.1 h3⟩
    · rintro ⟨_, h1, h2, h3⟩
      exact ⟨e1.2 h1, e2.2 h2, e3.2 h3⟩
theorem dec_bad (l : List UInt8) (h : (dec l).1 = 65533) : ((dec l).2 = 3 ∧ l.take 3 = [239, 191, 189]) ∨ ((dec l).2 = 1 ∧ ¬ l.take 3 = [239, 191, 189] ∧ 128 ≤ by_ l 0) := by
  rw [take3]
  rcases decM_bad _ _ _ _ _ (by_lt l 0) (by_lt l 1) (by_lt l 2) h with h | h
  · exact .inl ⟨h.1, h.2⟩
  · exact .inr ⟨h.1, h.2⟩

end Go.Proofs.Ytclblidfamabdaa.U

/- A range over a function, for iterators that keep state of their own in cells: one law for the caller, one form of contract for the iterator. -/
set_option linter.unusedVariables false
namespace Go.Proofs.Ytclblidfamabdaa
open Go.RowKit

/-- Blocks of S that were there lie as they lay; no block has gone; the streams are as they were. -/
structure Fr (S : Nat → Prop) (A B : World) : Prop where
  os : B.os = A.os
  tape : B.tape = A.tape
  output : B.output = A.output
  size : A.heap.size ≤ B.heap.size
  block : ∀ k, k < A.heap.size → S k → B.heap[k]? = A.heap[k]?

theorem Fr.refl (S : Nat → Prop) (A : World) : Fr S A A := ⟨rfl, rfl, rfl, Nat.le_refl _, fun _ _ _ => rfl⟩
theorem Fr.trans {S : Nat → Prop} {A B C : World} (h : Fr S A B) (k : Fr S B C) : Fr S A C :=
  ⟨k.os.trans h.os, k.tape.trans h.tape, k.output.trans h.output, Nat.le_trans h.size k.size, fun i hi hs => (k.block i (Nat.lt_of_lt_of_le hi h.size) hs).trans (h.block i hi hs)⟩
theorem Fr.mono {S T : Nat → Prop} {A B : World} (h : Fr S A B) (ht : ∀ k, k < A.heap.size → T k → S k) : Fr T A B := ⟨h.os, h.tape, h.output, h.size, fun k hk hs => h.block k hk (ht k hk hs)⟩
theorem Fr.alloc {S : Nat → Prop} {A B : World} (h : Fr S A B) (o : Obj) : Fr S A (B.alloc o) :=
  h.trans ⟨rfl, rfl, rfl, by simp, fun k hk _ => Below.heap_alloc _ _ _ hk⟩
theorem Fr.setCell {S : Nat → Prop} {A B : World} (h : Fr S A B) (a : Addr) (v : Value) (hn : a.block < A.heap.size → ¬ S a.block) : Fr S A (B.setCell a v) :=
  ⟨h.os, h.tape, h.output, by simpa [World.setCell] using h.size, fun k hk hs => by
    rw [Below.heap_setCell _ _ _ _ (fun e => by subst e; exact hn hk hs)]; exact h.block k hk hs⟩
theorem Fr.drew {S : Nat → Prop} {A B : World} (h : Fr S A B) : Fr S A B.drew := ⟨h.os, h.tape, h.output, h.size, h.block⟩
theorem Fr.drewN {S : Nat → Prop} {A B : World} (h : Fr S A B) (n : Nat) : Fr S A (B.drewN n) := ⟨h.os, h.tape, h.output, h.size, h.block⟩
theorem Fr.putObj {S : Nat → Prop} {A B : World} (h : Fr S A B) (r : Nat) (o : Obj) (hn : r < A.heap.size → ¬ S r) : Fr S A (B.putObj r o) :=
  ⟨h.os, h.tape, h.output, by simpa using h.size, fun k hk hs => by
    rw [World.putObj_heap_other (fun e => by subst e; exact hn hk hs)]; exact h.block k hk hs⟩
theorem Fr.grown {S : Nat → Prop} {A B C : World} {row : Option Nat} (h : Fr S A B) (hg : B.grownBy C row) (hn : ∀ r, row = some r → r < A.heap.size → ¬ S r) : Fr S A C :=
  ⟨hg.os.trans h.os, hg.tape.trans h.tape, hg.output.trans h.output, Nat.le_trans h.size hg.size, fun k hk hs =>
    (hg.block k (Nat.lt_of_lt_of_le hk h.size) (fun e => hn k e.symm hk hs)).trans (h.block k hk hs)⟩
theorem Fr.below {S : Nat → Prop} {A B C : World} {n : Nat} (h : Fr S A B) (hb : Below n B C) (hn : ∀ k, k < A.heap.size → S k → k < n) : Fr S A C :=
  ⟨hb.os.trans h.os, hb.tape.trans h.tape, hb.output.trans h.output, Nat.le_trans h.size hb.size, fun k hk hs => (hb.block k (hn k hk hs)).trans (h.block k hk hs)⟩
theorem Fr.of_below {S : Nat → Prop} {A B : World} {n : Nat} (hb : Below n A B) (hn : ∀ k, k < A.heap.size → S k → k < n) : Fr S A B := (Fr.refl S A).below hb hn
theorem Fr.toBelow {S : Nat → Prop} {A B : World} {n : Nat} (h : Fr S A B) (hn : ∀ k, k < n → S k) (hs : n ≤ A.heap.size) : Below n A B :=
  ⟨h.os, h.tape, h.output, h.size, fun k hk => h.block k (Nat.lt_of_lt_of_le hk hs) (hn k hk)⟩
theorem Fr.cell {S : Nat → Prop} {A B : World} (h : Fr S A B) {a : Addr} {v : Value} (hc : A.cell? a = some v) (hs : S a.block) : B.cell? a = some v :=
  (World.cell?_of_block (h.block a.block (World.block_lt_of_cell? A a hc) hs)).trans hc

/-- THE CONTRACT OF AN ITERATOR'S VALUE: called at the yield of whatever loop it hands on xs one by one, as far as the rounds say 'go on'. Its own m blocks are laid first of all; of the caller it asks that a round that goes on leaves these, and the blocks C (what it has captured), as they are. -/
def SeqC {α : Type} (P : Program) (g : FuncId) (lb : Array Value) (encs : α → Array Value) (xs : List α) (m : Nat) (C : Nat → Prop) (w : World) : Prop :=
  ∀ (l : Nat) (J Jx : List α → World → Prop) (W : World), Fr C w W → w.heap.size ≤ W.heap.size →
    (∀ pre A B, Fr (fun k => k < W.heap.size ∨ W.heap.size + m ≤ k) A B → J pre A → J pre B) →
    (∀ pre A B, Fr (fun k => k < W.heap.size ∨ W.heap.size + m ≤ k) A B → Jx pre A → Jx pre B) →
    (∀ pre x post W1, xs = pre ++ x :: post → W.heap.size + m ≤ W1.heap.size → J pre W1 → YieldAt Fence.wide 0 P l (encs x) W1 fun e W' =>
      (e = .returned (.bool true) ∧ J (pre ++ [x]) W' ∧ Fr (fun k => C k ∨ (W.heap.size ≤ k ∧ k < W.heap.size + m)) W1 W') ∨ (e = .returned (.bool false) ∧ Jx (pre ++ [x]) W')) →
    J [] W →
    Calls P g (#[.func (.yield l) #[] #[]] ++ lb) W fun e W' => (∃ v, e = .returned v) ∧ (J xs W' ∨ ∃ pre, pre <+: xs ∧ pre ≠ [] ∧ Jx pre W')

/-- It stands in every later world. -/
theorem SeqC.later {α : Type} {P : Program} {g : FuncId} {lb : Array Value} {encs : α → Array Value} {xs : List α} {m : Nat} {C : Nat → Prop} {w w' : World}
    (h : SeqC P g lb encs xs m C w) (hC : ∀ k, C k → k < w.heap.size) (hf : Fr C w w') : SeqC P g lb encs xs m C w' :=
  fun l J Jx W hW hs hJ hJx hY h0 => h l J Jx W (hf.trans hW) (Nat.le_trans hf.size hs) hJ hJx hY h0

/-- HOW THE BODY OF A ROUND MAY BE LEFT. -/
def roundEnd {α : Type} (S : Nat → Prop) (I : List α → World → Prop) (Ix : Code → List α → World → Prop) (xs : List α) (W : World) : Exit → Act → World → Prop
  | .normal, _, W' => Fr S W W' ∧ I xs W'
  | .ret, _, W' => Fr S W W' ∧ Ix .ret xs W'
  | .exit id, _, W' => Fr S W W' ∧ Ix (.exit id) xs W'
  | .goto t, _, W' => Fr S W W' ∧ Ix (.goto t) xs W'
  | .panic _, _, _ => False
  | .outgrown, _, _ => False

section
variable {P : Program} {α : Type}

/-- The core: the record lies at l in W1; the iterator is called. -/
theorem rf_core {F : Fence} {fn : FuncId} {tmps : Array Value} {ps : Array Tmp} {assign body : Code} {db l : Nat} {Q : Exit → Act → World → Prop} {a' : Act} {W1 w0 : World}
    (rec : LoopState → Option Code → Loop) (hrec : rec = fun st pe => { state := st, pending := pe, fn, tmps, params := ps, assign, body, defers := db })
    (hl1 : W1.heap[l]? = some (.loop (rec .ready none)))
    {gf : Nat} {lb : Array Value} {encs : α → Array Value} {xs : List α} {m : Nat} {C : Nat → Prop} (hseq : SeqC P gf lb encs xs m C w0) (hC0 : Fr C w0 W1) (hCl : ¬ C l) (hps : ∀ x, (encs x).size = ps.size)
    (I : List α → World → Prop) (Ix : Code → List α → World → Prop)
    (hI : ∀ pre A B, Fr (fun k => k ≠ l ∧ (k < W1.heap.size ∨ W1.heap.size + m ≤ k)) A B → I pre A → I pre B)
    (hIx : ∀ c pre A B, Fr (fun k => k ≠ l ∧ (k < W1.heap.size ∨ W1.heap.size + m ≤ k)) A B → Ix c pre A → Ix c pre B) (h0 : I [] W1)
    (S : Nat → Prop) (hS : ∀ k, C k ∨ k = l ∨ (W1.heap.size ≤ k ∧ k < W1.heap.size + m) → S k)
    (hround : ∀ pre x post W, xs = pre ++ x :: post → W1.heap.size + m ≤ W.heap.size → I pre W →
      assign.wpIn (Fence.wide.inRound l) 0 P (Exit.then (fun a2 W2 => Fr S W W2 ∧ ∀ W3, Fr (fun k => k ≠ l) W2 W3 → W3.heap.size = W2.heap.size → (∃ r, W3.heap[l]? = some (.loop r)) →
        body.wpIn (Fence.wide.inRound l) 0 P (roundEnd S I Ix (pre ++ [x]) W3) a2 W3) (fun _ _ _ => False)) { tmps := (ps.zip (encs x)).foldl (fun t (p, v) => t.setIfInBounds p v) tmps, defers := [] } W)
    (hdone : ∀ W, I xs W → Q .normal a' W)
    (hstop : ∀ c pre W, pre <+: xs → pre ≠ [] → Ix c pre W → c.wpIn F 0 P Q a' W) :
    CallsIn Fence.wide 0 P gf (#[.func (.yield l) #[] #[]] ++ lb) W1 (rangePost F 0 P l Q a') := by
  have hlt : l < W1.heap.size := (Array.getElem?_eq_some_iff.1 hl1).1
  refine callsIn_wide.2 ((hseq l (fun pre W => I pre W ∧ W.heap[l]? = some (.loop (rec .ready none))) (fun pre W => ∃ c, Ix c pre W ∧ W.heap[l]? = some (.loop (rec .done (some c)))) W1 hC0 hC0.size ?_ ?_ ?_ ⟨h0, hl1⟩).mono ?_)
  · rintro pre A B hf ⟨hi, hl⟩
    exact ⟨hI pre A B (hf.mono fun k _ h => h.2) hi, (hf.block l (Array.getElem?_eq_some_iff.1 hl).1 (.inl hlt)).trans hl⟩
  · rintro pre A B hf ⟨c, hi, hl⟩
    exact ⟨c, hIx c pre A B (hf.mono fun k _ h => h.2) hi, (hf.block l (Array.getElem?_eq_some_iff.1 hl).1 (.inl hlt)).trans hl⟩
  · rintro pre x post W hx hm ⟨hi, hl⟩
    have hy := run_yield (P := P) (args := encs x) hl (by rw [hrec]; exact hps x)
    rw [hrec] at hy
    refine ⟨fn, _, assign, body, hy, roundIn_of_wpIn trivial (wpIn_mono (hround pre x post W hx hm hi) ?_)⟩
    rintro e1 a2 Wa hq1
    cases e1 <;> try exact False.elim hq1
    obtain ⟨hfa, hbody⟩ := hq1
    have hla : Wa.heap[l]? = some (.loop (rec .ready none)) := (hfa.block l (Array.getElem?_eq_some_iff.1 hl).1 (hS l (.inr (.inl rfl)))).trans hl
    refine ⟨_, run_beginRound hla (by rw [hrec]), ?_⟩
    have hlta := (Array.getElem?_eq_some_iff.1 hla).1
    have hl2 : (Wa.putObj l (.loop { rec .ready none with state := .busy })).heap[l]? = some (.loop { rec .ready none with state := .busy }) := World.putObj_heap_same hlta
    have hf2 : ∀ {T : Nat → Prop}, (∀ k, T k → k ≠ l) → Fr T Wa (Wa.putObj l (.loop { rec .ready none with state := .busy })) := fun hT => (Fr.refl _ _).putObj _ _ (fun _ h => hT _ h rfl)
    refine wpIn_mono (hbody _ (hf2 fun k h => h) (by simp) ⟨_, hl2⟩) ?_
    have fin : ∀ (jump : Option Code) (W3 : World), Fr S (Wa.putObj l (.loop { rec .ready none with state := .busy })) W3 →
        (Instr.endRound l jump).run P W3 = .ok (.bool jump.isNone) (W3.putObj l (.loop (rec (if jump.isNone then .ready else .done) jump))) ∧
        (W3.putObj l (.loop (rec (if jump.isNone then .ready else .done) jump))).heap[l]? = some (.loop (rec (if jump.isNone then .ready else .done) jump)) := fun jump W3 hk3 => by
      have hl3 := (hk3.block l (by simp; exact hlta) (hS l (.inr (.inl rfl)))).trans hl2
      have := run_endRound (P := P) jump hl3
      rw [hrec] at this ⊢
      exact ⟨this, World.putObj_heap_same (Array.getElem?_eq_some_iff.1 hl3).1⟩
    have keep : ∀ (W3 : World) (o : Obj), Fr S (Wa.putObj l (.loop { rec .ready none with state := .busy })) W3 → Fr (fun k => C k ∨ (W1.heap.size ≤ k ∧ k < W1.heap.size + m)) W (W3.putObj l o) := fun W3 o h3 => by
      have hne : ∀ k, C k ∨ (W1.heap.size ≤ k ∧ k < W1.heap.size + m) → k ≠ l := fun k h e => by subst e; rcases h with h | h; exact hCl h; omega
      have h4 := ((hfa.mono fun k _ h => hS k (h.elim .inl (fun h => .inr (.inr h)))).trans (hf2 hne)).trans (h3.mono fun k _ h => hS k (h.elim .inl (fun h => .inr (.inr h))))
      exact h4.putObj _ _ (fun _ h => hne _ h rfl)
    have hi4 : ∀ (W3 : World) (o : Obj), Fr (fun k => k ≠ l ∧ (k < W1.heap.size ∨ W1.heap.size + m ≤ k)) W3 (W3.putObj l o) := fun W3 o => (Fr.refl _ _).putObj _ _ (fun _ h => h.1 rfl)
    rintro e a3 W3 hp
    cases e with
    | normal =>
      obtain ⟨hk3, hi3⟩ := hp
      obtain ⟨hr, hl4⟩ := fin none W3 hk3
      exact ⟨_, _, hr, .inl ⟨rfl, ⟨hI _ _ _ (hi4 _ _) hi3, hl4⟩, keep _ _ hk3⟩⟩
    | ret =>
      obtain ⟨hk3, hi3⟩ := hp
      obtain ⟨hr, hl4⟩ := fin (some .ret) W3 hk3
      exact ⟨_, _, hr, .inr ⟨rfl, .ret, hIx _ _ _ _ (hi4 _ _) hi3, hl4⟩⟩
    | exit id =>
      obtain ⟨hk3, hi3⟩ := hp
      obtain ⟨hr, hl4⟩ := fin (some (.exit id)) W3 hk3
      exact ⟨_, _, hr, .inr ⟨rfl, .exit id, hIx _ _ _ _ (hi4 _ _) hi3, hl4⟩⟩
    | goto t =>
      obtain ⟨hk3, hi3⟩ := hp
      obtain ⟨hr, hl4⟩ := fin (some (.goto t)) W3 hk3
      exact ⟨_, _, hr, .inr ⟨rfl, .goto t, hIx _ _ _ _ (hi4 _ _) hi3, hl4⟩⟩
    | panic ch => exact hp.elim
    | outgrown => exact hp.elim
  · rintro e W2 ⟨⟨v, rfl⟩, (⟨hi, hl⟩ | ⟨pre, hpre, hne, c, hi, hl⟩)⟩
    · exact ⟨none, _, by have := run_endLoop (P := P) hl (by rw [hrec]; simp); rw [hrec] at this; exact this, hdone _ (hI _ _ _ ((Fr.refl _ _).putObj _ _ (fun _ h => h.1 rfl)) hi)⟩
    · exact ⟨some c, _, by have := run_endLoop (P := P) hl (by rw [hrec]; simp); rw [hrec] at this; exact this, hstop c pre _ hpre hne (hIx _ _ _ _ ((Fr.refl _ _).putObj _ _ (fun _ h => h.1 rfl)) hi)⟩

/-- THE STATEMENT 'for .. := range g', outside of any other such loop. Its own two blocks, and the iterator's m, are w.heap.size .. w.heap.size + 2 + m - 1. -/
theorem wp_rf {g : Operand} {ps : Array Tmp} {assign body : Code} {Q : Exit → Act → World → Prop} {a : Act} {w : World} (w0 : World)
    {gf : Nat} {lb : Array Value} (hg : a.eval g = .func (.func gf) #[] lb) (eg : ∀ args w, (callFunc gf args).run P w = .ok (.enter gf args) w)
    {encs : α → Array Value} {xs : List α} {m : Nat} {C : Nat → Prop} (hseq : SeqC P gf lb encs xs m C w0) (hC0 : Fr C w0 w) (hCw : ∀ k, C k → k < w.heap.size) (hps : ∀ x, (encs x).size = ps.size)
    (I : List α → World → Prop) (Ix : Code → List α → World → Prop)
    (hI : ∀ pre A B, Fr (fun k => k < w.heap.size ∨ w.heap.size + 2 + m ≤ k) A B → I pre A → I pre B)
    (hIx : ∀ c pre A B, Fr (fun k => k < w.heap.size ∨ w.heap.size + 2 + m ≤ k) A B → Ix c pre A → Ix c pre B) (h0 : I [] w)
    (hround : ∀ pre x post W, xs = pre ++ x :: post → w.heap.size + 2 + m ≤ W.heap.size → I pre W →
      assign.wpIn (Fence.wide.inRound (w.heap.size + 1)) 0 P (Exit.then (fun a2 W2 => Fr (fun k => C k ∨ (w.heap.size ≤ k ∧ k < w.heap.size + 2 + m)) W W2 ∧
        ∀ W3, Fr (fun k => k ≠ w.heap.size + 1) W2 W3 → W3.heap.size = W2.heap.size → (∃ r, W3.heap[w.heap.size + 1]? = some (.loop r)) →
        body.wpIn (Fence.wide.inRound (w.heap.size + 1)) 0 P (roundEnd (fun k => C k ∨ (w.heap.size ≤ k ∧ k < w.heap.size + 2 + m)) I Ix (pre ++ [x]) W3) a2 W3) (fun _ _ _ => False))
        { tmps := (ps.zip (encs x)).foldl (fun t (p, v) => t.setIfInBounds p v) a.tmps, defers := [] } W)
    (hdone : ∀ W, I xs W → W.heap[w.heap.size]? = some (.deferred (some [])) → Q .normal { a with defers := { target := .collected w.heap.size, args := #[] } :: a.defers } W)
    (hstop : ∀ c pre W, pre <+: xs → pre ≠ [] → Ix c pre W → W.heap[w.heap.size]? = some (.deferred (some [])) →
      c.wp P Q { a with defers := { target := .collected w.heap.size, args := #[] } :: a.defers } W) :
    (Code.rangeFunc g ps assign body).wp P Q a w := by
  refine (wpIn_wide (n := 0)).1 (wpIn_rangeFunc fun fn hfn => ?_)
  rw [show Fence.wide.round = none from rfl]
  obtain ⟨rec, hrec⟩ : ∃ rec : LoopState → Option Code → Loop, rec = fun st pe => { state := st, pending := pe, fn, tmps := a.tmps, params := ps, assign, body, defers := w.heap.size } := ⟨_, rfl⟩
  obtain ⟨W1, hW1⟩ : ∃ W1, (w.alloc (.deferred (some []))).alloc (.loop (rec .ready none)) = W1 := ⟨_, rfl⟩
  have hz : W1.heap.size = w.heap.size + 2 := by rw [← hW1]; simp
  have hL1 : W1.heap[w.heap.size + 1]? = some (.loop (rec .ready none)) := by
    rw [← hW1]; have := World.alloc_heap_new (w.alloc (.deferred (some []))) (.loop (rec .ready none)); rwa [World.size_alloc] at this
  have hK1 : W1.heap[w.heap.size]? = some (.deferred (some [])) := by
    rw [← hW1]; exact (Below.heap_alloc _ _ _ (by simp)).trans (World.alloc_heap_new w _)
  have hw1 : ∀ S, Fr S w W1 := fun S => by rw [← hW1]; exact ((Fr.refl _ _).alloc _).alloc _
  refine ⟨w.heap.size + 1, [{ target := .collected w.heap.size, args := #[] }], W1, { target := .fn (.func gf) lb, args := #[.func (.yield (w.heap.size + 1)) #[] #[]] }, W1, gf,
    #[.func (.yield (w.heap.size + 1)) #[] #[]] ++ lb, W1, ?_, ?_, fun _ _ => trivial, ?_, fun h => (by simp [Fence.wide] at h), ?_⟩
  · rw [← hW1, hrec]; exact run_enterLoop_outer _ _ _ _ _
  · simp only [resolve, hg]
    simp [go_sem]
  · simp [invoke, go_sem, eg]
  · have hsub : ∀ k, k < w.heap.size ∨ w.heap.size + 2 + m ≤ k → k ≠ w.heap.size + 1 ∧ (k < W1.heap.size ∨ W1.heap.size + m ≤ k) := fun k h => by rw [hz]; omega
    refine rf_core rec hrec hL1 hseq (hC0.trans (hw1 _)) (fun h => by have := hCw _ h; omega) hps
      (fun pre W => I pre W ∧ W.heap[w.heap.size]? = some (.deferred (some []))) (fun c pre W => Ix c pre W ∧ W.heap[w.heap.size]? = some (.deferred (some []))) ?_ ?_ ⟨hI _ _ _ (hw1 _) h0, hK1⟩
      (fun k => C k ∨ (w.heap.size ≤ k ∧ k < w.heap.size + 2 + m)) ?_ ?_ ?_ ?_
    · rintro pre A B hf ⟨hi, hk⟩
      exact ⟨hI _ _ _ (hf.mono fun k _ h => hsub k h) hi, (hf.block _ (Array.getElem?_eq_some_iff.1 hk).1 ⟨by omega, .inl (by omega)⟩).trans hk⟩
    · rintro c pre A B hf ⟨hi, hk⟩
      exact ⟨hIx _ _ _ _ (hf.mono fun k _ h => hsub k h) hi, (hf.block _ (Array.getElem?_eq_some_iff.1 hk).1 ⟨by omega, .inl (by omega)⟩).trans hk⟩
    · intro k h
      rw [hz] at h
      rcases h with h | h | h
      · exact .inl h
      · exact .inr (by omega)
      · exact .inr (by omega)
    · rintro pre x post W hx hm ⟨hi, hk⟩
      refine wpIn_mono (hround pre x post W hx (by omega) hi) ?_
      rintro e1 a2 W2 hq
      cases e1 <;> try exact False.elim hq
      obtain ⟨hf2, hb⟩ := hq
      refine ⟨hf2, fun W3 hf3 hs3 hr3 => ?_⟩
      have hk2 := (hf2.block _ (Array.getElem?_eq_some_iff.1 hk).1 (.inr (by omega))).trans hk
      have hk3 : W3.heap[w.heap.size]? = some (.deferred (some [])) := (hf3.block w.heap.size (Array.getElem?_eq_some_iff.1 hk2).1 (by omega)).trans hk2
      refine wpIn_mono (hb W3 hf3 hs3 hr3) ?_
      have hk' : ∀ W4, Fr (fun k => C k ∨ (w.heap.size ≤ k ∧ k < w.heap.size + 2 + m)) W3 W4 → W4.heap[w.heap.size]? = some (.deferred (some [])) := fun W4 hf => (hf.block _ (Array.getElem?_eq_some_iff.1 hk3).1 (.inr (by omega))).trans hk3
      rintro e a3 W3 hp
      cases e with
      | normal => exact ⟨hp.1, hp.2, hk' _ hp.1⟩
      | ret => exact ⟨hp.1, hp.2, hk' _ hp.1⟩
      | exit id => exact ⟨hp.1, hp.2, hk' _ hp.1⟩
      | goto t => exact ⟨hp.1, hp.2, hk' _ hp.1⟩
      | panic ch => exact hp.elim
      | outgrown => exact hp.elim
    · exact fun W h => hdone W h.1 h.2
    · exact fun c pre W hp hn h => wpIn_wide.2 (hstop c pre W hp hn h.1 h.2)

/-- The same within a round of loop l₀ (its record lies in w): one block of its own. -/
theorem wp_rf_in {g : Operand} {ps : Array Tmp} {assign body : Code} {Q : Exit → Act → World → Prop} {a : Act} {w : World} (w0 : World) {l₀ : Nat} (hl0 : ∃ r, w.heap[l₀]? = some (.loop r))
    {gf : Nat} {lb : Array Value} (hg : a.eval g = .func (.func gf) #[] lb) (eg : ∀ args w, (callFunc gf args).run P w = .ok (.enter gf args) w)
    {encs : α → Array Value} {xs : List α} {m : Nat} {C : Nat → Prop} (hseq : SeqC P gf lb encs xs m C w0) (hC0 : Fr C w0 w) (hCw : ∀ k, C k → k < w.heap.size) (hps : ∀ x, (encs x).size = ps.size)
    (I : List α → World → Prop) (Ix : Code → List α → World → Prop)
    (hI : ∀ pre A B, Fr (fun k => k < w.heap.size ∨ w.heap.size + 1 + m ≤ k) A B → I pre A → I pre B)
    (hIx : ∀ c pre A B, Fr (fun k => k < w.heap.size ∨ w.heap.size + 1 + m ≤ k) A B → Ix c pre A → Ix c pre B) (h0 : I [] w)
    (hround : ∀ pre x post W, xs = pre ++ x :: post → w.heap.size + 1 + m ≤ W.heap.size → I pre W →
      assign.wpIn (Fence.wide.inRound w.heap.size) 0 P (Exit.then (fun a2 W2 => Fr (fun k => C k ∨ (w.heap.size ≤ k ∧ k < w.heap.size + 1 + m)) W W2 ∧
        ∀ W3, Fr (fun k => k ≠ w.heap.size) W2 W3 → W3.heap.size = W2.heap.size → (∃ r, W3.heap[w.heap.size]? = some (.loop r)) →
        body.wpIn (Fence.wide.inRound w.heap.size) 0 P (roundEnd (fun k => C k ∨ (w.heap.size ≤ k ∧ k < w.heap.size + 1 + m)) I Ix (pre ++ [x]) W3) a2 W3) (fun _ _ _ => False))
        { tmps := (ps.zip (encs x)).foldl (fun t (p, v) => t.setIfInBounds p v) a.tmps, defers := [] } W)
    (hdone : ∀ W, I xs W → Q .normal a W)
    (hstop : ∀ c pre W, pre <+: xs → pre ≠ [] → Ix c pre W → c.wpIn (Fence.wide.inRound l₀) 0 P Q a W) :
    (Code.rangeFunc g ps assign body).wpIn (Fence.wide.inRound l₀) 0 P Q a w := by
  obtain ⟨r0, hl0⟩ := hl0
  refine wpIn_rangeFunc fun fn hfn => ?_
  rw [show (Fence.wide.inRound l₀).round = some l₀ from rfl]
  obtain ⟨rec, hrec⟩ : ∃ rec : LoopState → Option Code → Loop, rec = fun st pe => { state := st, pending := pe, fn, tmps := a.tmps, params := ps, assign, body, defers := r0.defers } := ⟨_, rfl⟩
  obtain ⟨W1, hW1⟩ : ∃ W1, w.alloc (.loop (rec .ready none)) = W1 := ⟨_, rfl⟩
  have hz : W1.heap.size = w.heap.size + 1 := by rw [← hW1]; simp
  have hL1 : W1.heap[w.heap.size]? = some (.loop (rec .ready none)) := by rw [← hW1]; exact World.alloc_heap_new w _
  have hw1 : ∀ S, Fr S w W1 := fun S => by rw [← hW1]; exact (Fr.refl _ _).alloc _
  refine ⟨w.heap.size, [], W1, { target := .fn (.func gf) lb, args := #[.func (.yield w.heap.size) #[] #[]] }, W1, gf,
    #[.func (.yield w.heap.size) #[] #[]] ++ lb, W1, ?_, ?_, fun _ _ => trivial, ?_, fun h => (by simp [Fence.wide] at h), ?_⟩
  · rw [← hW1, hrec]; exact run_enterLoop_inner hl0 _ _ _ _ _
  · simp only [resolve, hg]
    simp [go_sem]
  · simp [invoke, go_sem, eg]
  · have hsub : ∀ k, k < w.heap.size ∨ w.heap.size + 1 + m ≤ k → k ≠ w.heap.size ∧ (k < W1.heap.size ∨ W1.heap.size + m ≤ k) := fun k h => by rw [hz]; omega
    exact rf_core (F := Fence.wide.inRound l₀) rec hrec hL1 hseq (hC0.trans (hw1 _)) (fun h => by have := hCw _ h; omega) hps I Ix
      (fun pre A B hf hi => hI _ _ _ (hf.mono fun k _ h => hsub k h) hi) (fun c pre A B hf hi => hIx _ _ _ _ (hf.mono fun k _ h => hsub k h) hi) (hI _ _ _ (hw1 _) h0)
      (fun k => C k ∨ (w.heap.size ≤ k ∧ k < w.heap.size + 1 + m))
      (fun k h => by rw [hz] at h; rcases h with h | h | h; exact .inl h; exact .inr (by omega); exact .inr (by omega))
      (fun pre x post W hx hm hi => hround pre x post W hx (by omega) hi) hdone hstop
end
end Go.Proofs.Ytclblidfamabdaa

/- Small words that all texts of this seat use: signs of a ByteArray at a place; what a slice reads as; cells through steps of a world. -/
set_option linter.unusedVariables false
namespace Go.Proofs.Ytclblidfamabdaa
open Go.RowKit Go.Lib

theorem drop_ne {s : ByteArray} {pos : Nat} (hp : pos < s.size) : s.data.toList.drop pos ≠ [] := by
  intro h
  have := congrArg List.length h
  rw [List.length_drop, ← U.size_eq] at this
  simp at this
  omega
theorem toks_at {s : ByteArray} {pos : Nat} (hp : pos < s.size) : U.toks (s.data.toList.drop pos) = Utf8.decode s pos :: U.toks (s.data.toList.drop (pos + (Utf8.decode s pos).2)) := by
  rw [U.decode_eq s pos hp, U.toks_ne _ (drop_ne hp), List.drop_drop]
theorem toks_end {s : ByteArray} {pos : Nat} (hp : ¬ pos < s.size) : U.toks (s.data.toList.drop pos) = [] := by
  rw [List.drop_of_length_le (by rw [← U.size_eq]; omega)]; rfl
theorem decode_facts {s : ByteArray} {pos : Nat} (hp : pos < s.size) :
    1 ≤ (Utf8.decode s pos).2 ∧ (Utf8.decode s pos).2 ≤ 4 ∧ pos + (Utf8.decode s pos).2 ≤ s.size ∧ (Utf8.decode s pos).1 ≤ 1114111 ∧ ((Utf8.decode s pos).1 < 55296 ∨ 57344 ≤ (Utf8.decode s pos).1) := by
  have hd := U.dec_facts (s.data.toList.drop pos) (drop_ne hp)
  rw [← U.decode_eq s pos hp, List.length_drop, ← U.size_eq] at hd
  omega
theorem toks_len {s : ByteArray} : (U.toks s.data.toList).length ≤ s.size := by rw [U.size_eq]; exact U.toks_length_le _

theorem Fr.iterAt {S : Nat → Prop} {A B : World} (h : Fr S A B) (k : Nat) (s : ByteArray) (pos : Nat) (hn : k < A.heap.size → ¬ S k) : Fr S A (B.iterAt k s pos) := h.putObj k _ hn

theorem cell_of_block {W : World} {B : Nat} {v : Value} {t : TypeId} (h : W.heap[B]? = some (.cells #[v] t (0, 0))) : W.cell? ⟨B, 0, none⟩ = some v ∧ W.frozen? ⟨B, 0, none⟩ = false := by
  constructor <;> simp [World.cell?, World.frozen?, h]

theorem below_dn {B : Nat} {a w : World} (h : Below B a w) (n : Nat) : Below B a (w.drewN n) := ⟨h.os, h.tape, h.output, h.size, h.block⟩
theorem cell_new (W : World) (v : Value) (t : TypeId) : (W.alloc (.cells #[v] t)).cell? ⟨W.heap.size, 0, none⟩ = some v ∧ (W.alloc (.cells #[v] t)).frozen? ⟨W.heap.size, 0, none⟩ = false :=
  cell_of_block (World.alloc_heap_new W _)

end Go.Proofs.Ytclblidfamabdaa

/- Tests of a number against ranges, over whatever frame: the small steps of a switch of many such tests. -/
set_option linter.unusedVariables false
namespace Go.Proofs.Ytclblidfamabdaa
open Go.RowKit Go.Shelf Go.Lib
attribute [local go_sem] Oper.semAt_some

theorem eval_put (a : Act) (d j : Nat) (v : Value) (h : d < a.tmps.size) : (a.put (some d) v).eval (.tmp j) = if j = d then v else a.eval (.tmp j) := by
  simp only [Act.put, Act.eval, Array.getD_eq_getD_getElem?, Array.getElem?_setIfInBounds]
  by_cases e : d = j
  · subst e; simp [h]
  · simp [e, Ne.symm e]
theorem size_put (a : Act) (d : Nat) (v : Value) : (a.put (some d) v).tmps.size = a.tmps.size := by simp [Act.put]

section
variable {P : Program} {ops : Array Oper} {Q : Exit → Act → World → Prop} {a : Act} {w : World} {rest : List Oper} {o : Oper}
theorem wpl_val (v : Value) (hw : Region.wanted o (yielded ops a.tmps) = true) (hr : (execOp a.eval o).run P w = .ok (.value v) w) (h : wpList P ops Q rest (a.put o.dst v) w) : wpList P ops Q (o :: rest) a w := by
  unfold wpList
  rw [if_pos hw]
  refine .inl ?_
  unfold Oper.wp
  rw [hr, Oper.upon_value]
  exact h
end
theorem wanted_none {d : Option Tmp} {op : Op} {t : TypeId} {p : String} {af : Array Edge} {y : Nat → Option Bool} : Region.wanted { dst := d, op := op, type := t, pos := p, after := af, guard := none } y = true := rfl

variable {w : World}
variable {ev : Operand → Value} {d : Option Tmp} {t : TypeId} {p : String} {af : Array Edge} {g : Option (Nat × Bool)}
theorem run_move (x : Operand) (v : Value) (h : ev x = v) : (execOp ev { dst := d, op := .move x, type := t, pos := p, after := af, guard := g }).run Try.prog w = .ok (.value v) w := by
  simp [execOp, go_sem, h]
theorem run_assign (x : Operand) (v : Value) (h : ev x = v) : (execOp ev { dst := d, op := .assign x, type := t, pos := p, after := af, guard := g }).run Try.prog w = .ok (.value v) w := by
  simp [execOp, go_sem, h]
theorem run_geq (x : Operand) (r c : Int) (hc : ∀ v, ev (.const v) = v) (h : ev x = .int .i32 r) :
    (execOp ev { dst := d, op := .binOp .geq 21 x (.const (.int .i32 c)) 21, type := t, pos := p, after := af, guard := g }).run Try.prog w = .ok (.value (.bool (decide (c ≤ r)))) w := by
  simp [execOp, go_sem, h, hc]
theorem run_leq (x : Operand) (r c : Int) (hc : ∀ v, ev (.const v) = v) (h : ev x = .int .i32 r) :
    (execOp ev { dst := d, op := .binOp .leq 21 x (.const (.int .i32 c)) 21, type := t, pos := p, after := af, guard := g }).run Try.prog w = .ok (.value (.bool (decide (r ≤ c)))) w := by
  simp [execOp, go_sem, h, hc]
theorem run_lss (x : Operand) (r c : Int) (hc : ∀ v, ev (.const v) = v) (h : ev x = .int .i32 r) :
    (execOp ev { dst := d, op := .binOp .lss 21 x (.const (.int .i32 c)) 21, type := t, pos := p, after := af, guard := g }).run Try.prog w = .ok (.value (.bool (decide (r < c)))) w := by
  simp [execOp, go_sem, h, hc]
theorem run_eql (x : Operand) (r c : Int) (hc : ∀ v, ev (.const v) = v) (h : ev x = .int .i32 r) :
    (execOp ev { dst := d, op := .binOp .eql 21 x (.const (.int .i32 c)) 21, type := t, pos := p, after := af, guard := g }).run Try.prog w = .ok (.value (.bool (r == c))) w := by
  simp [execOp, go_sem, h, hc]
theorem run_pick (x y : Operand) (b : Bool) (v : Value) (hc : ∀ v, ev (.const v) = v) (h : ev x = .bool b) (h2 : b = true → ev y = v) (h3 : b = false → v = .bool false) :
    (execOp ev { dst := d, op := .pick x y (.const (.bool false)), type := t, pos := p, after := af, guard := g }).run Try.prog w = .ok (.value v) w := by
  cases b
  · simp [execOp, go_sem, h, h3 rfl, hc]
  · simp [execOp, go_sem, h, h2 rfl]

/-- A frame of n slots, r in the first one. -/
structure Fok (n : Nat) (r : Int) (a : Act) : Prop where
  defers : a.defers = []
  size : a.tmps.size = n
  r : a.eval (.tmp 0) = .int .i32 r
theorem Fok.put {n : Nat} {r : Int} {a : Act} (h : Fok n r a) (d : Nat) (v : Value) (h0 : 0 < d) (hd : d < n) : Fok n r (a.put (some d) v) :=
  ⟨h.defers, by rw [size_put, h.size], by rw [eval_put _ _ _ _ (by rw [h.size]; exact hd), if_neg (by omega)]; exact h.r⟩
theorem Fok.at_ {n : Nat} {r : Int} {a : Act} (h : Fok n r a) (d : Nat) (v : Value) (hd : d < n) : (a.put (some d) v).eval (.tmp d) = v := by
  rw [eval_put _ _ _ _ (by rw [h.size]; exact hd), if_pos rfl]
theorem Fok.past {n : Nat} {r : Int} {a : Act} (h : Fok n r a) (d j : Nat) (v u : Value) (hd : d < n) (hj : j ≠ d) (e : a.eval (.tmp j) = u) : (a.put (some d) v).eval (.tmp j) = u := by
  rw [eval_put _ _ _ _ (by rw [h.size]; exact hd), if_neg hj]; exact e
theorem evc (a : Act) : ∀ v, a.eval (.const v) = v := fun _ => rfl

/-- A piece of code that tests r, and lays what it finds into slot d. -/
def Tst (n : Nat) (r : Int) (d : Nat) (b : Bool) (c : Code) : Prop :=
  ∀ (Q : Exit → Act → World → Prop) (a : Act) (w : World), Fok n r a → (∀ a', Fok n r a' → a'.eval (.tmp d) = .bool b → Q .normal a' w) → c.wp Try.prog Q a w

theorem yielded_at {ops : Array Oper} {a : Act} {j d : Nat} {b : Bool} {o : Oper} (ho : ops[j]? = some o) (hd : o.dst = some d) (h : a.eval (.tmp d) = .bool b) : yielded ops a.tmps j = some b := by
  unfold yielded
  rw [ho, Option.bind_some, hd, Option.bind_some]
  have : a.tmps.getD d undef = .bool b := h
  rw [Array.getD_eq_getD_getElem?] at this
  cases e : a.tmps[d]? with
  | none => rw [e] at this; cases this
  | some v => rw [e] at this; simp at this; rw [this]

theorem tst_gen {n : Nat} {r lo hi : Int} {op2 : BinOp} {q : Bool} {d k id : Nat} {t1 t2 t3 t4 t5 t6 t7 : TypeId} {p1 p2 p3 p4 p5 p6 p7 : String} {f1 f2 f3 f4 f5 f6 f7 : Array Edge} (hk : k + 5 < n) (h0 : 0 < k) (hd : d < n) (hd0 : 0 < d)
    (hrun : ∀ (ev : Operand → Value) (x : Operand) (d : Option Tmp) (t : TypeId) (p : String) (af : Array Edge) (g : Option (Nat × Bool)) (w : World), (∀ v, ev (.const v) = v) → ev x = .int .i32 r →
      (execOp ev { dst := d, op := .binOp op2 21 x (.const (.int .i32 hi)) 21, type := t, pos := p, after := af, guard := g }).run Try.prog w = .ok (.value (.bool q)) w) :
    Tst n r d (decide (lo ≤ r) && q) (.region id #[
      { dst := some k, op := .move (.tmp 0), type := t1, pos := p1, after := f1, guard := none },
      { dst := some (k + 1), op := .binOp .geq 21 (.tmp k) (.const (.int .i32 lo)) 21, type := t2, pos := p2, after := f2, guard := none },
      { dst := some (k + 2), op := .move (.tmp (k + 1)), type := t3, pos := p3, after := f3, guard := none },
      { dst := some (k + 3), op := .move (.tmp 0), type := t4, pos := p4, after := f4, guard := some (2, true) },
      { dst := some (k + 4), op := .binOp op2 21 (.tmp (k + 3)) (.const (.int .i32 hi)) 21, type := t5, pos := p5, after := f5, guard := some (2, true) },
      { dst := some (k + 5), op := .pick (.tmp (k + 2)) (.tmp (k + 4)) (.const (.bool false)), type := t6, pos := p6, after := f6, guard := none },
      { dst := some d, op := .assign (.tmp (k + 5)), type := t7, pos := p7, after := f7, guard := none }] false) := by
  intro Q a w ha hK
  refine wp_region_lit ?_
  generalize hops : List.toArray _ = ops
  refine wpl_val _ rfl (run_move _ _ ha.r) ?_
  have h1 := ha.put k (.int .i32 r) h0 (by omega)
  have e1 := ha.at_ k (.int .i32 r) (by omega)
  simp only
  generalize a.put (some k) (.int .i32 r) = a1 at h1 e1 ⊢
  refine wpl_val _ rfl (run_geq _ r lo (evc _) e1) ?_
  have h2 := h1.put (k + 1) (.bool (decide (lo ≤ r))) (by omega) (by omega)
  have e2 := h1.at_ (k + 1) (.bool (decide (lo ≤ r))) (by omega)
  simp only
  generalize a1.put (some (k + 1)) (.bool (decide (lo ≤ r))) = a2 at h2 e2 ⊢
  refine wpl_val _ rfl (run_move _ _ e2) ?_
  have h3 := h2.put (k + 2) (.bool (decide (lo ≤ r))) (by omega) (by omega)
  have e3 := h2.at_ (k + 2) (.bool (decide (lo ≤ r))) (by omega)
  simp only
  generalize a2.put (some (k + 2)) (.bool (decide (lo ≤ r))) = a3 at h3 e3 ⊢
  have hy : ∀ a' : Act, a'.eval (.tmp (k + 2)) = .bool (decide (lo ≤ r)) → yielded ops a'.tmps 2 = some (decide (lo ≤ r)) := fun a' h => by
    rw [← hops]; exact yielded_at rfl rfl h
  have fin : ∀ a5 : Act, Fok n r a5 → a5.eval (.tmp (k + 2)) = .bool (decide (lo ≤ r)) → (decide (lo ≤ r) = true → a5.eval (.tmp (k + 4)) = .bool (q)) →
      wpList Try.prog ops Q [{ dst := some (k + 5), op := .pick (.tmp (k + 2)) (.tmp (k + 4)) (.const (.bool false)), type := t6, pos := p6, after := f6, guard := none }, { dst := some d, op := .assign (.tmp (k + 5)), type := t7, pos := p7, after := f7, guard := none }] a5 w := by
    intro a5 h5 g2 g4
    refine wpl_val _ rfl (run_pick _ _ _ (.bool (decide (lo ≤ r) && q)) (evc _) g2 (fun hb => by rw [hb, Bool.true_and]; exact g4 hb) (fun hb => by rw [hb]; rfl)) ?_
    have h6 := h5.put (k + 5) (.bool (decide (lo ≤ r) && q)) (by omega) (by omega)
    have e6 := h5.at_ (k + 5) (.bool (decide (lo ≤ r) && q)) (by omega)
    simp only
    generalize a5.put (some (k + 5)) (.bool (decide (lo ≤ r) && q)) = a6 at h6 e6 ⊢
    refine wpl_val _ rfl (run_assign _ _ e6) ?_
    exact hK _ (h6.put d _ hd0 hd) (h6.at_ d _ hd)
  cases hb : decide (lo ≤ r) with
  | true =>
    have hy2 := hy a3 e3
    refine wpl_val _ (by simp only [Region.wanted]; rw [hy2, hb]; rfl) (run_move _ _ h3.r) ?_
    have h4 := h3.put (k + 3) (.int .i32 r) (by omega) (by omega)
    have e4 := h3.at_ (k + 3) (.int .i32 r) (by omega)
    have g4 := h3.past (k + 3) (k + 2) (.int .i32 r) _ (by omega) (by omega) e3
    simp only
    generalize a3.put (some (k + 3)) (.int .i32 r) = a4 at h4 e4 g4 ⊢
    refine wpl_val _ (by simp only [Region.wanted]; rw [hy a4 g4, hb]; rfl) (hrun _ _ _ _ _ _ _ _ (evc _) e4) ?_
    exact fin _ (h4.put (k + 4) _ (by omega) (by omega)) (h4.past (k + 4) (k + 2) _ _ (by omega) (by omega) g4) (fun _ => h4.at_ (k + 4) _ (by omega))
  | false =>
    refine wpList_skip (by simp only [Region.wanted]; rw [hy a3 e3, hb]; rfl) ?_
    have h4 := h3.put (k + 3) undef (by omega) (by omega)
    have g4 := h3.past (k + 3) (k + 2) undef _ (by omega) (by omega) e3
    simp only
    generalize a3.put (some (k + 3)) undef = a4 at h4 g4 ⊢
    refine wpList_skip (by simp only [Region.wanted]; rw [hy a4 g4, hb]; rfl) ?_
    exact fin _ (h4.put (k + 4) _ (by omega) (by omega)) (h4.past (k + 4) (k + 2) _ _ (by omega) (by omega) g4) (fun h => by rw [hb] at h; cases h)

theorem tst_range {n : Nat} {r lo hi : Int} {d k id : Nat} {t1 t2 t3 t4 t5 t6 t7 : TypeId} {p1 p2 p3 p4 p5 p6 p7 : String} {f1 f2 f3 f4 f5 f6 f7 : Array Edge} (hk : k + 5 < n) (h0 : 0 < k) (hd : d < n) (hd0 : 0 < d) :
    Tst n r d (decide (lo ≤ r) && decide (r ≤ hi)) (.region id #[
      { dst := some k, op := .move (.tmp 0), type := t1, pos := p1, after := f1, guard := none },
      { dst := some (k + 1), op := .binOp .geq 21 (.tmp k) (.const (.int .i32 lo)) 21, type := t2, pos := p2, after := f2, guard := none },
      { dst := some (k + 2), op := .move (.tmp (k + 1)), type := t3, pos := p3, after := f3, guard := none },
      { dst := some (k + 3), op := .move (.tmp 0), type := t4, pos := p4, after := f4, guard := some (2, true) },
      { dst := some (k + 4), op := .binOp .leq 21 (.tmp (k + 3)) (.const (.int .i32 hi)) 21, type := t5, pos := p5, after := f5, guard := some (2, true) },
      { dst := some (k + 5), op := .pick (.tmp (k + 2)) (.tmp (k + 4)) (.const (.bool false)), type := t6, pos := p6, after := f6, guard := none },
      { dst := some d, op := .assign (.tmp (k + 5)), type := t7, pos := p7, after := f7, guard := none }] false) :=
  tst_gen hk h0 hd hd0 (fun ev x d t p af g w hc h => run_leq x r hi hc h)
theorem tst_rlt {n : Nat} {r lo hi : Int} {d k id : Nat} {t1 t2 t3 t4 t5 t6 t7 : TypeId} {p1 p2 p3 p4 p5 p6 p7 : String} {f1 f2 f3 f4 f5 f6 f7 : Array Edge} (hk : k + 5 < n) (h0 : 0 < k) (hd : d < n) (hd0 : 0 < d) :
    Tst n r d (decide (lo ≤ r) && decide (r < hi)) (.region id #[
      { dst := some k, op := .move (.tmp 0), type := t1, pos := p1, after := f1, guard := none },
      { dst := some (k + 1), op := .binOp .geq 21 (.tmp k) (.const (.int .i32 lo)) 21, type := t2, pos := p2, after := f2, guard := none },
      { dst := some (k + 2), op := .move (.tmp (k + 1)), type := t3, pos := p3, after := f3, guard := none },
      { dst := some (k + 3), op := .move (.tmp 0), type := t4, pos := p4, after := f4, guard := some (2, true) },
      { dst := some (k + 4), op := .binOp .lss 21 (.tmp (k + 3)) (.const (.int .i32 hi)) 21, type := t5, pos := p5, after := f5, guard := some (2, true) },
      { dst := some (k + 5), op := .pick (.tmp (k + 2)) (.tmp (k + 4)) (.const (.bool false)), type := t6, pos := p6, after := f6, guard := none },
      { dst := some d, op := .assign (.tmp (k + 5)), type := t7, pos := p7, after := f7, guard := none }] false) :=
  tst_gen hk h0 hd hd0 (fun ev x d t p af g w hc h => run_lss x r hi hc h)

theorem tst_eq {n : Nat} {r c : Int} {d k id : Nat} {t1 t2 t3 : TypeId} {p1 p2 p3 : String} {f1 f2 f3 : Array Edge} (hk : k + 1 < n) (h0 : 0 < k) (hd : d < n) (hd0 : 0 < d) :
    Tst n r d (r == c) (.region id #[
      { dst := some k, op := .move (.tmp 0), type := t1, pos := p1, after := f1, guard := none },
      { dst := some (k + 1), op := .binOp .eql 21 (.tmp k) (.const (.int .i32 c)) 21, type := t2, pos := p2, after := f2, guard := none },
      { dst := some d, op := .assign (.tmp (k + 1)), type := t3, pos := p3, after := f3, guard := none }] false) := by
  intro Q a w ha hK
  refine wp_region_lit ?_
  refine wpl_val _ rfl (run_move _ _ ha.r) ?_
  have h1 := ha.put k (.int .i32 r) h0 (by omega)
  have e1 := ha.at_ k (.int .i32 r) (by omega)
  simp only
  generalize a.put (some k) (.int .i32 r) = a1 at h1 e1 ⊢
  refine wpl_val _ rfl (run_eql _ r c (evc _) e1) ?_
  have h2 := h1.put (k + 1) (.bool (r == c)) (by omega) (by omega)
  have e2 := h1.at_ (k + 1) (.bool (r == c)) (by omega)
  simp only
  generalize a1.put (some (k + 1)) (.bool (r == c)) = a2 at h2 e2 ⊢
  refine wpl_val _ rfl (run_assign _ _ e2) ?_
  exact hK _ (h2.put d _ hd0 hd) (h2.at_ d _ hd)

theorem tst_or {n : Nat} {r : Int} {d : Nat} {b1 b2 : Bool} {c1 c2 : Code} (h1 : Tst n r d b1 c1) (h2 : Tst n r d b2 c2) : Tst n r d (b1 || b2) (c1.seq (.cond (.tmp d) .skip c2)) := by
  intro Q a w ha hK
  refine wp_seq (h1 _ a w ha fun a' ha' e => ?_)
  cases b1
  · exact wp_cond_false e (h2 Q a' w ha' hK)
  · exact wp_cond_true e (wp_skip (hK a' ha' e))

/-- A switch: what it finds: it returns with a value in slot 'res', or goes on behind itself. -/
def Sw (n : Nat) (r : Int) (res : Nat) (v : Option Value) (c : Code) : Prop :=
  ∀ (Q : Exit → Act → World → Prop) (a : Act) (w : World), Fok n r a → (∀ u, v = some u → ∀ a', Fok n r a' → a'.eval (.tmp res) = u → Q .ret a' w) → (v = none → ∀ a', Fok n r a' → Q .normal a' w) → c.wp Try.prog Q a w
theorem sw_use {n : Nat} {r : Int} {res : Nat} {v : Option Value} {c : Code} {Q : Exit → Act → World → Prop} {a : Act} {w : World} (h : Sw n r res v c) (ha : Fok n r a) (h1 : ∀ u, v = some u → ∀ a', Fok n r a' → a'.eval (.tmp res) = u → Q .ret a' w) (h2 : v = none → ∀ a', Fok n r a' → Q .normal a' w) : c.wp Try.prog Q a w := h Q a w ha h1 h2
theorem sw_skip {n : Nat} {r : Int} {res : Nat} : Sw n r res none .skip := fun Q a w ha h1 h2 => wp_skip (h2 rfl a ha)
theorem sw_case {n : Nat} {r : Int} {res d id : Nat} {b : Bool} {u : Value} {v : Option Value} {t B : Code} {t1 : TypeId} {p1 : String} {f1 : Array Edge} (ht : Tst n r d b t) (hB : Sw n r res v B) (hr : res < n) (hr0 : 0 < res) :
    Sw n r res (if b then some u else v) (t.seq (.cond (.tmp d) ((Code.region id #[{ dst := some res, op := .assign (.const u), type := t1, pos := p1, after := f1, guard := none }] false).seq .ret) B)) := by
  intro Q a w ha h1 h2
  refine wp_seq (ht _ a w ha fun a' ha' e => ?_)
  cases b
  · exact wp_cond_false e (hB Q a' w ha' h1 h2)
  · refine wp_cond_true e (wp_seq (wp_region_lit (wpl_val _ rfl (run_assign _ u rfl) ?_)))
    exact wp_ret (h1 u rfl _ (ha'.put res u hr0 hr) (ha'.at_ res u hr))
end Go.Proofs.Ytclblidfamabdaa

/- What the clusters of any signs are, in plain lists: no program stands here. -/
set_option linter.unusedVariables false
namespace Go.Proofs.Ytclblidfamabdaa.C

/-- Is a number in one of these ranges? -/
def inR (l : List (Int × Int)) (r : Int) : Bool := l.any fun p => decide (p.1 ≤ r) && decide (r ≤ p.2)
theorem inR_in {l : List (Int × Int)} {r : Int} (p : Int × Int) (hp : p ∈ l) (h1 : p.1 ≤ r) (h2 : r ≤ p.2) : inR l r = true := List.any_eq_true.2 ⟨p, hp, by simp [h1, h2]⟩
theorem inR_nil (r : Int) : inR [] r = false := rfl
theorem inR_cons (a b : Int) (l : List (Int × Int)) (r : Int) : inR ((a, b) :: l) r = (decide (a ≤ r) && decide (r ≤ b) || inR l r) := rfl

/-- No cells; two cells; stands alone. -/
def rs0 : List (Int × Int) := [(0, 31), (127, 159), (173, 173), (768, 879), (1155, 1161), (1425, 1469), (1471, 1471), (1473, 1474), (1476, 1477), (1479, 1479), (1552, 1562), (1564, 1564), (1611, 1631), (1648, 1648), (1750, 1756), (1759, 1764), (1767, 1768), (1770, 1773), (3633, 3633), (3636, 3642), (3655, 3662), (4448, 4607), (6832, 6911), (7616, 7679), (8203, 8207), (8232, 8238), (8288, 8303), (8400, 8447), (12441, 12442), (65024, 65039), (65056, 65071), (65279, 65279), (127995, 127999), (917504, 921599)]
def rs2 : List (Int × Int) := [(4352, 4447), (8986, 8987), (9001, 9002), (9193, 9196), (9748, 9749), (9889, 9889), (9989, 9989), (10024, 10024), (10060, 10060), (10067, 10069), (10133, 10135), (11035, 11036), (11904, 12350), (12353, 42191), (43360, 43391), (44032, 55203), (63744, 64255), (65072, 65135), (65281, 65376), (65504, 65510), (127744, 128591), (128640, 128767), (129280, 129535), (131072, 262141)]
def rsC : List (Int × Int) := [(0, 31), (127, 159), (1564, 1564), (8206, 8206), (8207, 8207), (8232, 8238), (8294, 8297)]
def no (r : Int) : Bool := inR rs0 r
def two (r : Int) : Bool := inR rs2 r
def ctl (r : Int) : Bool := inR rsC r
def flag (r : Int) : Bool := decide (127462 ≤ r) && decide (r ≤ 127487)
def wid (r : Int) : Nat := if no r then 0 else if two r then 2 else 1
theorem wid_le (r : Int) : wid r ≤ 2 := by unfold wid; split; omega; split <;> omega

/-- A cluster: place and length in bytes, from one sign up to another, its cells. -/
structure Cl where
  at_ : Nat
  len : Nat
  frm : Nat
  to_ : Nat
  cells : Nat
  deriving DecidableEq
/-- One that is being gone through. -/
structure G where
  c : Cl
  first : Nat
  last : Nat
  arrow : Bool

def takes (g : G) (r : Nat) : Bool :=
  if wid r = 0 ∧ ctl r = false then !ctl g.first
  else if flag r then flag g.first && decide (g.c.to_ - g.c.frm = 1)
  else decide (wid r = 2) && (decide (g.last = 8205) && decide (wid g.first = 2))
def isArrow (r : Nat) : Bool := decide (8592 ≤ r) && decide (r ≤ 11263)
def addF (g : G) (r n : Nat) : G := ⟨⟨g.c.at_, g.c.len + n, g.c.frm, g.c.to_ + 1, wid r⟩, r, r, isArrow r⟩
def addM (g : G) (r n : Nat) : G := ⟨⟨g.c.at_, g.c.len + n, g.c.frm, g.c.to_ + 1, if flag r || (g.arrow && decide (r = 65039)) then 2 else g.c.cells⟩, g.first, r, g.arrow⟩
def add (g : G) (r n : Nat) : G := if g.c.to_ = g.c.frm then addF g r n else addM g r n
def new (g : G) : G := ⟨⟨g.c.at_ + g.c.len, 0, g.c.to_, g.c.to_, 0⟩, 0, 0, false⟩
def zero : G := ⟨⟨0, 0, 0, 0, 0⟩, 0, 0, false⟩

/-- One sign more: the clusters that are done by it, the group that it stands in. -/
def step (g : G) (t : U.Tk) : List Cl × G := if takes g t.1 then ([], add g t.1 t.2) else ([g.c], add (new g) t.1 t.2)
/-- So many signs more. -/
def run : G → List U.Tk → List Cl × G
  | g, [] => ([], g)
  | g, t :: l => ((step g t).1 ++ (run (step g t).2 l).1, (run (step g t).2 l).2)
/-- The clusters of a list of signs. -/
def clus : List U.Tk → List Cl
  | [] => []
  | t :: l => (run (add zero t.1 t.2) l).1 ++ [(run (add zero t.1 t.2) l).2.c]
def cells (l : List Cl) : Nat := (l.map (·.cells)).sum

theorem run_append (g : G) (a b : List U.Tk) : run g (a ++ b) = ((run g a).1 ++ (run (run g a).2 b).1, (run (run g a).2 b).2) := by
  induction a generalizing g with
  | nil => rfl
  | cons t a ih => simp [run, ih]
theorem run_snoc (g : G) (a : List U.Tk) (t : U.Tk) : run g (a ++ [t]) = ((run g a).1 ++ (step (run g a).2 t).1, (step (run g a).2 t).2) := by
  rw [run_append]; simp [run]
theorem add_new (g : G) (r n : Nat) : add (new g) r n = addF (new g) r n := if_pos rfl

theorem wsum_app (a b : List U.Tk) : U.wsum (a ++ b) = U.wsum a + U.wsum b := by simp [U.wsum]
/-- What a group is that stands at signs frm up to to of a list: its place, its first, its last, its cells. -/
def rune (l : List U.Tk) (k : Nat) : Nat := (l[k]?.getD (0, 0)).1
def lenAt (l : List U.Tk) (k : Nat) : Nat := (l[k]?.getD (0, 0)).2
def pl (l : List U.Tk) (k : Nat) : Nat := U.wsum (l.take k)
theorem tk_eq (l : List U.Tk) (k : Nat) (h : k < l.length) : l[k] = (rune l k, lenAt l k) := by simp [rune, lenAt, List.getElem?_eq_getElem h]
theorem pl_succ (l : List U.Tk) (k : Nat) (h : k < l.length) : pl l (k + 1) = pl l k + lenAt l k := by
  unfold pl lenAt
  rw [List.take_add_one, wsum_app, List.getElem?_eq_getElem h]; simp [U.wsum]
def hasMark (l : List U.Tk) (frm to : Nat) : Bool := (List.range to).any fun i => decide (frm < i) && decide (rune l i = 65039)
theorem hasMark_succ (l : List U.Tk) (frm to : Nat) (h : frm < to) : hasMark l frm (to + 1) = (hasMark l frm to || decide (rune l to = 65039)) := by
  unfold hasMark; rw [List.range_succ, List.any_append]; simp [h]
theorem hasMark_one (l : List U.Tk) (frm : Nat) : hasMark l frm (frm + 1) = false := by
  unfold hasMark; rw [List.any_eq_false]; intro i hi; rw [List.mem_range] at hi; simp; omega
def cellsOf (l : List U.Tk) (frm to : Nat) : Nat :=
  if decide (1 < to - frm) && flag (rune l frm) && flag (rune l (frm + 1)) then 2
  else if isArrow (rune l frm) && hasMark l frm to then 2 else wid (rune l frm)
/-- As the document has it: does a sign belong to the cluster that began at frm? -/
def joins (l : List U.Tk) (frm k : Nat) : Bool :=
  if wid (rune l k) = 0 ∧ ctl (rune l k) = false ∧ ctl (rune l frm) = false then true
  else if wid (rune l k) = 2 ∧ rune l (k - 1) = 8205 ∧ wid (rune l frm) = 2 then true
  else flag (rune l k) && (decide (k = frm + 1) && flag (rune l frm))
structure Grp (l : List U.Tk) (frm to : Nat) (g : G) : Prop where
  lt : frm < to
  le : to ≤ l.length
  frm_ : g.c.frm = frm
  to_ : g.c.to_ = to
  at_ : g.c.at_ = pl l frm
  len : g.c.at_ + g.c.len = pl l to
  first : g.first = rune l frm
  last : g.last = rune l (to - 1)
  arrow : g.arrow = isArrow (rune l frm)
  cells : g.c.cells = cellsOf l frm to
  joined : ∀ k, frm < k → k < to → joins l frm k = true

theorem flag_wid {r : Int} (h : flag r = true) : wid r = 1 := by
  have hr : 127462 ≤ r ∧ r ≤ 127487 := by simpa [flag] using h
  have h0 : no r = false := by simp [no, inR, rs0]; omega
  have h2 : two r = false := by simp [two, inR, rs2]; omega
  unfold wid; rw [h0, h2]; rfl
theorem arrow_flag {r : Nat} (h : flag r = true) : isArrow r = false := by
  have hr : (127462 : Int) ≤ r ∧ (r : Int) ≤ 127487 := by simpa [flag] using h
  simp [isArrow]; omega

theorem Grp.begin {l : List U.Tk} {frm : Nat} (h : frm < l.length) {z : G} (hz : z.c = ⟨pl l frm, 0, frm, frm, 0⟩) : Grp l frm (frm + 1) (add z (rune l frm) (lenAt l frm)) := by
  have e : add z (rune l frm) (lenAt l frm) = addF z (rune l frm) (lenAt l frm) := by unfold add; rw [hz]; rw [if_pos rfl]
  rw [e]
  refine ⟨Nat.lt_succ_self _, h, by simp [addF, hz], by simp [addF, hz], by simp [addF, hz], by simp [addF, hz, pl_succ l frm h], rfl, by simp [addF], rfl, ?_, fun k h1 h2 => by omega⟩
  show wid (rune l frm) = cellsOf l frm (frm + 1)
  unfold cellsOf
  rw [hasMark_one, Nat.add_sub_cancel_left]
  simp
theorem Grp.takes_joins {l : List U.Tk} {frm to : Nat} {g : G} (h : Grp l frm to g) : takes g (rune l to) = joins l frm to := by
  have hlt := h.lt
  unfold takes joins
  rw [h.first, h.last, h.frm_, h.to_]
  by_cases hf : flag (rune l to) = true
  · have hw := flag_wid hf
    rw [hf, hw]
    simp
    rw [Bool.and_comm]
    congr 1
    rw [Bool.eq_iff_iff]; simp; omega
  · rw [Bool.not_eq_true] at hf
    rw [hf]
    by_cases h0 : wid (rune l to) = 0
    · rw [h0]; simp
    · simp [h0]

theorem Grp.grow {l : List U.Tk} {frm to : Nat} {g : G} (h : Grp l frm to g) (ht : to < l.length) (hk : takes g (rune l to) = true) : Grp l frm (to + 1) (add g (rune l to) (lenAt l to)) := by
  have hlt := h.lt
  have e : add g (rune l to) (lenAt l to) = addM g (rune l to) (lenAt l to) := by unfold add; rw [if_neg (by rw [h.frm_, h.to_]; omega)]
  rw [e]
  refine ⟨by omega, ht, h.frm_, by simp [addM, h.to_], h.at_, ?_, h.first, by simp [addM], h.arrow, ?_, fun k h1 h2 => ?_⟩
  · simp only [addM]; have := h.len; rw [pl_succ l to ht]; omega
  case refine_3 =>
    by_cases e : k = to
    · subst e; rw [← h.takes_joins]; exact hk
    · exact h.joined k h1 (by omega)
  show (if flag (rune l to) || (g.arrow && decide (rune l to = 65039)) then 2 else g.c.cells) = cellsOf l frm (to + 1)
  rw [h.arrow, h.cells]
  unfold cellsOf
  rw [hasMark_succ l frm to hlt]
  by_cases hf : flag (rune l to) = true
  · have hw := flag_wid hf
    unfold takes at hk
    rw [if_neg (by rw [hw]; omega), hf, if_pos rfl, h.first, h.frm_, h.to_, Bool.and_eq_true, decide_eq_true_eq] at hk
    have : to = frm + 1 := by omega
    subst this
    rw [hf, hk.1, decide_eq_true (by omega : 1 < frm + 1 + 1 - frm)]
    rfl
  · rw [Bool.not_eq_true] at hf
    rw [hf]
    by_cases h1 : to = frm + 1
    · subst h1
      rw [hf, hasMark_one]
      simp
    · have d1 : decide (1 < to - frm) = true := decide_eq_true (by omega)
      have d2 : decide (1 < to + 1 - frm) = true := decide_eq_true (by omega)
      rw [d1, d2]
      by_cases h2 : flag (rune l frm) = true
      · rw [arrow_flag h2]; simp
      · rw [Bool.not_eq_true] at h2
        rw [h2]
        cases isArrow (rune l frm) <;> cases hasMark l frm to <;> cases decide (rune l to = 65039) <;> simp
theorem Grp.new_c {l : List U.Tk} {frm to : Nat} {g : G} (h : Grp l frm to g) : (new g).c = ⟨pl l to, 0, to, to, 0⟩ := by
  simp only [new, h.len, h.to_]

/-- The clusters lie one behind the other. -/
inductive Cov (l : List U.Tk) : Nat → List Cl → Prop
  | nil : Cov l l.length []
  | cons {frm to : Nat} {g : G} {cs : List Cl} : Grp l frm to g → (to < l.length → takes g (rune l to) = false) → Cov l to cs → Cov l frm (g.c :: cs)
theorem drop_at {l : List U.Tk} {k : Nat} (h : k < l.length) : l.drop k = (rune l k, lenAt l k) :: l.drop (k + 1) := by rw [List.drop_eq_getElem_cons h, tk_eq l k h]
theorem cov_run (l : List U.Tk) : ∀ (n frm to : Nat) (g : G), l.length - to = n → Grp l frm to g → Cov l frm ((run g (l.drop to)).1 ++ [(run g (l.drop to)).2.c]) := by
  intro n
  induction n with
  | zero =>
    intro frm to g hn h
    have : to = l.length := by have := h.le; omega
    subst this
    rw [List.drop_length]
    exact .cons h (fun hh => absurd hh (Nat.lt_irrefl _)) .nil
  | succ n ih =>
    intro frm to g hn h
    have ht : to < l.length := by omega
    rw [drop_at ht]
    simp only [run, step]
    by_cases hk : takes g (rune l to) = true
    · rw [hk]
      simp only [if_true, List.nil_append]
      exact ih frm (to + 1) _ (by omega) (h.grow ht hk)
    · rw [Bool.not_eq_true] at hk
      rw [hk]
      simp only [Bool.false_eq_true, if_false, List.cons_append, List.nil_append]
      exact .cons h (fun _ => hk) (ih to (to + 1) _ (by omega) (Grp.begin ht h.new_c))
theorem cov_clus (l : List U.Tk) : Cov l 0 (clus l) := by
  cases l with
  | nil => exact .nil
  | cons t l => exact cov_run (t :: l) _ 0 1 (add zero t.1 t.2) rfl (Grp.begin (l := t :: l) (frm := 0) (by simp) rfl)


/-- A group is what its ends make it. -/
theorem Grp.same {l : List U.Tk} {frm to : Nat} {g g' : G} (h : Grp l frm to g) (h' : Grp l frm to g') : g = g' := by
  have a1 := h.frm_.trans h'.frm_.symm
  have a2 := h.to_.trans h'.to_.symm
  have a3 := h.at_.trans h'.at_.symm
  have a4 := h.len.trans h'.len.symm
  have a5 := h.first.trans h'.first.symm
  have a6 := h.last.trans h'.last.symm
  have a7 := h.arrow.trans h'.arrow.symm
  have a8 := h.cells.trans h'.cells.symm
  obtain ⟨⟨q1, q2, q3, q4, q5⟩, q6, q7, q8⟩ := g
  obtain ⟨⟨r1, r2, r3, r4, r5⟩, r6, r7, r8⟩ := g'
  simp only at a1 a2 a3 a4 a5 a6 a7 a8
  subst a1 a2 a3 a5 a6 a7 a8
  have : q2 = r2 := by omega
  subst this
  rfl
theorem Grp.to_eq {l : List U.Tk} {frm to to' : Nat} {g g' : G} (h : Grp l frm to g) (h' : Grp l frm to' g') (e : to < l.length → takes g (rune l to) = false) (e' : to' < l.length → takes g' (rune l to') = false) : to = to' := by
  rcases Nat.lt_trichotomy to to' with hl | hl | hl
  · have := h'.joined to h.lt hl
    rw [← h.takes_joins, e (by have := h'.le; omega)] at this
    cases this
  · exact hl
  · have := h.joined to' h'.lt hl
    rw [← h'.takes_joins, e' (by have := h.le; omega)] at this
    cases this
theorem Cov.frm_le {l : List U.Tk} {frm : Nat} {cs : List Cl} (h : Cov l frm cs) : frm ≤ l.length := by
  cases h with
  | nil => exact Nat.le_refl _
  | cons h => have := h.lt; have := h.le; omega
theorem Cov.same {l : List U.Tk} {frm : Nat} {cs cs' : List Cl} (h : Cov l frm cs) (h' : Cov l frm cs') : cs = cs' := by
  induction h generalizing cs' with
  | nil =>
    cases h' with
    | nil => rfl
    | cons h => have := h.lt; have := h.le; omega
  | cons h e hc ih =>
    cases h' with
    | nil => have := h.lt; have := h.le; omega
    | cons h' e' hc' =>
      obtain rfl := h.to_eq h' e e'
      rw [h.same h', ih hc']

/-- Where the clusters from the k-th one on begin. -/
def start (l : List U.Tk) (cs : List Cl) (k : Nat) : Nat := (cs[k]?.map (·.frm)).getD l.length
theorem Cov.start_zero {l : List U.Tk} {frm : Nat} {cs : List Cl} (h : Cov l frm cs) : start l cs 0 = frm := by
  cases h with
  | nil => rfl
  | cons h => simp [start, h.frm_]
theorem Cov.drop {l : List U.Tk} {frm : Nat} {cs : List Cl} (h : Cov l frm cs) (k : Nat) (hk : k ≤ cs.length) : Cov l (start l cs k) (cs.drop k) := by
  induction k generalizing frm cs with
  | zero => rw [h.start_zero]; exact h
  | succ k ih =>
    cases h with
    | nil => simp at hk
    | cons h e hc =>
      have := ih hc (by simpa using hk)
      simpa [start] using this
/-- The k-th cluster. -/
theorem Cov.at_ {l : List U.Tk} {frm : Nat} {cs : List Cl} (h : Cov l frm cs) (k : Nat) (c : Cl) (hk : cs[k]? = some c) :
    ∃ g, g.c = c ∧ Grp l c.frm c.to_ g ∧ (c.to_ < l.length → takes g (rune l c.to_) = false) ∧ start l cs k = c.frm ∧ start l cs (k + 1) = c.to_ := by
  have hlt := (List.getElem?_eq_some_iff.1 hk).1
  have hd := h.drop k (by omega)
  have hd1 := h.drop (k + 1) hlt
  rw [List.drop_eq_getElem_cons hlt, (List.getElem?_eq_some_iff.1 hk).2] at hd
  have hs : start l cs k = c.frm := by simp [start, hk]
  rw [hs] at hd
  generalize cs.drop (k + 1) = ds at hd hd1
  generalize start l cs (k + 1) = b at hd1 ⊢
  obtain ⟨f, hf⟩ : ∃ f, c.frm = f := ⟨_, rfl⟩
  obtain ⟨xs, hxs⟩ : ∃ xs, c :: ds = xs := ⟨_, rfl⟩
  rw [hf, hxs] at hd
  cases hd with
  | nil => cases hxs
  | cons hg e hc =>
    rename_i to g cs'
    obtain ⟨rfl, rfl⟩ := List.cons.inj hxs
    obtain rfl := hg.to_
    subst hf
    exact ⟨g, rfl, hg, e, hs, by rw [← hd1.start_zero, ← hc.start_zero]⟩

/-- A part of a list at the front. -/
theorem take_rune (l : List U.Tk) (b k : Nat) (h : k < b) : rune (l.take b) k = rune l k := by simp [rune, h]
theorem take_pl (l : List U.Tk) (b k : Nat) (h : k ≤ b) : pl (l.take b) k = pl l k := by simp [pl, List.take_take, Nat.min_eq_left h]
theorem take_hasMark (l : List U.Tk) (b frm to : Nat) (h : to ≤ b) : hasMark (l.take b) frm to = hasMark l frm to := by
  unfold hasMark
  rw [Bool.eq_iff_iff, List.any_eq_true, List.any_eq_true]
  refine exists_congr fun i => and_congr_right fun hi => ?_
  rw [List.mem_range] at hi
  rw [take_rune l b i (by omega)]
theorem take_joins (l : List U.Tk) (b frm k : Nat) (h : k < b) (hf : frm < k) : joins (l.take b) frm k = joins l frm k := by
  unfold joins; rw [take_rune l b k h, take_rune l b frm (by omega), take_rune l b (k - 1) (by omega)]
theorem Grp.take {l : List U.Tk} {frm to b : Nat} {g : G} (h : Grp l frm to g) (hb : to ≤ b) : Grp (l.take b) frm to g := by
  have hlt := h.lt
  refine ⟨h.lt, by rw [List.length_take]; have := h.le; omega, h.frm_, h.to_, by rw [take_pl l b frm (by omega)]; exact h.at_, by rw [take_pl l b to hb]; exact h.len,
    by rw [take_rune l b frm (by omega)]; exact h.first, by rw [take_rune l b _ (by omega)]; exact h.last, by rw [take_rune l b frm (by omega)]; exact h.arrow, ?_,
    fun k h1 h2 => by rw [take_joins l b frm k (by omega) h1]; exact h.joined k h1 h2⟩
  rw [h.cells]
  unfold cellsOf
  rw [take_hasMark l b frm to hb, take_rune l b frm (by omega)]
  by_cases e : to = frm + 1
  · subst e; rw [Nat.add_sub_cancel_left]; simp
  · rw [take_rune l b (frm + 1) (by omega)]
theorem Cov.take {l : List U.Tk} {frm : Nat} {cs : List Cl} (h : Cov l frm cs) (k : Nat) (hk : k ≤ cs.length) : Cov (l.take (start l cs k)) frm (cs.take k) := by
  induction k generalizing frm cs with
  | zero =>
    rw [h.start_zero]
    have := h.frm_le
    have e : (l.take frm).length = frm := by rw [List.length_take]; omega
    have := Cov.nil (l := l.take frm)
    rwa [e] at this
  | succ k ih =>
    cases h with
    | nil => simp at hk
    | cons hg e hc =>
      have h1 := ih hc (by simpa using hk)
      rename_i to g cs
      show Cov (l.take (start l cs k)) frm (g.c :: cs.take k)
      have h3 := h1.frm_le
      rw [List.length_take] at h3
      refine .cons (hg.take (by omega)) (fun hh => ?_) h1
      rw [List.length_take] at hh
      rw [take_rune l _ _ (by omega)]
      exact e (by omega)

/-- A list's end by itself. -/
def sh (a n : Nat) (c : Cl) : Cl := ⟨c.at_ + a, c.len, c.frm + n, c.to_ + n, c.cells⟩
theorem drop_rune (l : List U.Tk) (b k : Nat) : rune (l.drop b) k = rune l (k + b) := by simp [rune, List.getElem?_drop, Nat.add_comm]
theorem drop_pl (l : List U.Tk) (b k : Nat) : pl (l.drop b) k + pl l b = pl l (k + b) := by
  unfold pl
  rw [Nat.add_comm k b, List.take_add, wsum_app, Nat.add_comm]
theorem drop_hasMark (l : List U.Tk) (b frm to : Nat) : hasMark (l.drop b) frm to = hasMark l (frm + b) (to + b) := by
  unfold hasMark
  rw [Bool.eq_iff_iff, List.any_eq_true, List.any_eq_true]
  simp only [List.mem_range, Bool.and_eq_true, decide_eq_true_eq, drop_rune]
  constructor
  · rintro ⟨i, h1, h2, h3⟩; exact ⟨i + b, by omega, by omega, h3⟩
  · rintro ⟨i, h1, h2, h3⟩; exact ⟨i - b, by omega, by omega, by rw [Nat.sub_add_cancel (by omega)]; exact h3⟩
theorem drop_joins (l : List U.Tk) (b frm k : Nat) (h : frm < k) : joins (l.drop b) frm k = joins l (frm + b) (k + b) := by
  unfold joins
  rw [drop_rune, drop_rune, drop_rune, show k - 1 + b = k + b - 1 by omega]
  have : decide (k = frm + 1) = decide (k + b = frm + b + 1) := by rw [Bool.eq_iff_iff]; simp; omega
  rw [this]
def shG (a n : Nat) (g : G) : G := ⟨sh a n g.c, g.first, g.last, g.arrow⟩
theorem takes_sh (a n : Nat) (g : G) (r : Nat) : takes (shG a n g) r = takes g r := by
  unfold takes shG sh
  simp only [Nat.add_sub_add_right]
theorem Grp.drop {l : List U.Tk} {frm to b : Nat} {g : G} (hb : b ≤ l.length) (h : Grp (l.drop b) frm to g) : Grp l (frm + b) (to + b) (shG (pl l b) b g) := by
  have hlt := h.lt
  have hle := h.le
  rw [List.length_drop] at hle
  have h1 := drop_pl l b frm
  have h2 := drop_pl l b to
  refine ⟨by omega, by omega, by simp [shG, sh, h.frm_], by simp [shG, sh, h.to_], by simp only [shG, sh]; rw [h.at_]; exact h1, by simp only [shG, sh]; have := h.len; omega,
    by rw [← drop_rune]; exact h.first, by rw [show to + b - 1 = to - 1 + b by omega, ← drop_rune]; exact h.last, by rw [← drop_rune]; exact h.arrow, ?_,
    fun k k1 k2 => by have := h.joined (k - b) (by omega) (by omega); rwa [drop_joins l b frm (k - b) (by omega), Nat.sub_add_cancel (by omega)] at this⟩
  show g.c.cells = _
  rw [h.cells]
  unfold cellsOf
  rw [drop_rune, drop_rune, drop_hasMark, show frm + 1 + b = frm + b + 1 by omega, show to + b - (frm + b) = to - frm by omega]
theorem Cov.of_drop {l : List U.Tk} {b : Nat} (hb : b ≤ l.length) {frm : Nat} {cs : List Cl} (h : Cov (l.drop b) frm cs) : Cov l (frm + b) (cs.map (sh (pl l b) b)) := by
  induction h with
  | nil => rw [List.length_drop, Nat.sub_add_cancel hb]; exact .nil
  | cons hg e hc ih =>
    have := Cov.cons (hg.drop hb) (fun hh => by rw [takes_sh, ← drop_rune]; exact e (by rw [List.length_drop]; omega)) ih
    exact this
/-- The clusters of the front up to a cluster's begin, and of the rest. -/
theorem clus_take (l : List U.Tk) (k : Nat) (hk : k ≤ (clus l).length) : clus (l.take (start l (clus l) k)) = (clus l).take k := (cov_clus _).same ((cov_clus l).take k hk)
theorem clus_drop (l : List U.Tk) (k : Nat) (hk : k ≤ (clus l).length) : (clus (l.drop (start l (clus l) k))).map (sh (pl l (start l (clus l) k)) (start l (clus l) k)) = (clus l).drop k := by
  have h := (cov_clus l).drop k hk
  have h2 := (cov_clus (l.drop (start l (clus l) k))).of_drop h.frm_le
  rw [Nat.zero_add] at h2
  exact h2.same h
/-- What stands behind changes no cluster but the last. -/
theorem clus_behind (a b : List U.Tk) : (clus a).length ≤ (clus (a ++ b)).length ∧ ∀ i, i + 1 < (clus a).length → (clus a)[i]? = (clus (a ++ b))[i]? := by
  cases a with
  | nil => exact ⟨Nat.zero_le _, fun i h => by simp [clus] at h⟩
  | cons t a =>
    simp only [clus, List.cons_append, run_append]
    refine ⟨by simp only [List.length_append, List.length_cons, List.length_nil]; omega, fun i h => ?_⟩
    simp only [List.length_append, List.length_cons, List.length_nil] at h
    rw [List.getElem?_append_left (by omega), List.append_assoc, List.getElem?_append_left (by omega)]
theorem ctl_wid {r : Int} (h : ctl r = true) : wid r = 0 := by
  have h0 : no r = true := by
    simp [ctl, inR, rsC] at h
    simp [no, inR, rs0]
    omega
  unfold wid; rw [h0]; rfl
theorem ctl_flag {r : Int} (h : ctl r = true) : flag r = false := by
  cases hf : flag r with
  | false => rfl
  | true => have := flag_wid hf; rw [ctl_wid h] at this; cases this
/-- Nothing joins a sign that stands alone; none of these joins. -/
theorem joins_ctl {l : List U.Tk} {frm k : Nat} (h : joins l frm k = true) : ctl (rune l frm) = false ∧ ctl (rune l k) = false := by
  constructor
  · cases hc : ctl (rune l frm) with
    | false => rfl
    | true =>
      unfold joins at h
      rw [hc, ctl_wid hc, ctl_flag hc] at h
      simp at h
  · cases hc : ctl (rune l k) with
    | false => rfl
    | true =>
      unfold joins at h
      rw [hc, ctl_wid hc, ctl_flag hc] at h
      simp at h

/-- What has been handed on, and the group, behind so many signs; has one begun? -/
def pst : List U.Tk → List Cl × G × Bool
  | [] => ([], zero, false)
  | t :: d => ((run (add zero t.1 t.2) d).1, (run (add zero t.1 t.2) d).2, true)
theorem pst_one (t : U.Tk) : pst [t] = ([], add zero t.1 t.2, true) := rfl
theorem pst_snoc (d : List U.Tk) (t : U.Tk) (hd : d ≠ []) : pst (d ++ [t]) = ((pst d).1 ++ (step (pst d).2.1 t).1, (step (pst d).2.1 t).2, true) := by
  cases d with
  | nil => exact absurd rfl hd
  | cons x d => simp only [List.cons_append, pst, run_snoc]
theorem pst_begun {d : List U.Tk} (hd : d ≠ []) : (pst d).2.2 = true := by
  cases d with
  | nil => exact absurd rfl hd
  | cons => rfl
theorem clus_pst {d : List U.Tk} (hd : d ≠ []) : clus d = (pst d).1 ++ [(pst d).2.1.c] := by
  cases d with
  | nil => exact absurd rfl hd
  | cons => rfl
theorem grp_pst (l : List U.Tk) : ∀ (n : Nat), 0 < n → n ≤ l.length → ∃ frm, Grp l frm n (pst (l.take n)).2.1 := by
  intro n
  induction n with
  | zero => intro h; omega
  | succ n ih =>
    intro _ hn
    by_cases h0 : n = 0
    · subst h0
      have : l.take 1 = [(rune l 0, lenAt l 0)] := by
        have := drop_at (l := l) (k := 0) (by omega)
        rw [List.drop_zero] at this
        rw [this]; rfl
      refine ⟨0, ?_⟩
      rw [this, pst_one]
      exact Grp.begin (l := l) (frm := 0) (z := zero) (by omega) rfl
    · obtain ⟨frm, h⟩ := ih (by omega) (by omega)
      have e : l.take (n + 1) = l.take n ++ [(rune l n, lenAt l n)] := by
        rw [List.take_add_one, List.getElem?_eq_getElem (by omega), tk_eq l n (by omega)]; rfl
      have hne : l.take n ≠ [] := by
        intro hh
        rcases List.take_eq_nil_iff.1 hh with h | h
        · exact h0 h
        · subst h; simp at hn
      rw [e, pst_snoc _ _ hne]
      simp only [step]
      by_cases hk : takes (pst (l.take n)).2.1 (rune l n) = true
      · rw [if_pos hk]; exact ⟨frm, h.grow (by omega) hk⟩
      · rw [if_neg hk]; exact ⟨n, Grp.begin (by omega) h.new_c⟩
/-- Behind a front: what was handed on, then the clusters of the group and what follows. -/
theorem clus_front (d : List U.Tk) (t : U.Tk) (r : List U.Tk) (hd : d ≠ []) (hk : takes (pst d).2.1 t.1 = false) : ∃ post, clus (d ++ t :: r) = (pst d).1 ++ (pst d).2.1.c :: post := by
  cases d with
  | nil => exact absurd rfl hd
  | cons x d =>
    simp only [pst] at hk ⊢
    simp only [List.cons_append, clus, run_append, run, step, hk]
    simp only [Bool.false_eq_true, if_false, List.append_assoc, List.cons_append, List.nil_append]
    exact ⟨_, rfl⟩
end Go.Proofs.Ytclblidfamabdaa.C

/- Both directions: classes, rows, levels, orders: plain functions of numbers: no program stands here. -/
set_option linter.unusedVariables false
namespace Go.Proofs.Ytclblidfamabdaa.B

/-- The ranges of a class. -/
def rgs : Nat → List (Int × Int)
  | 1 => [(10, 10)]
  | 2 => [(9, 9), (11, 11), (13, 13), (28, 31), (133, 133), (8233, 8233)]
  | 3 => [(12, 12), (32, 32), (5760, 5760), (8192, 8202), (8232, 8232), (8287, 8287), (12288, 12288)]
  | 4 => [(48, 57), (178, 179), (185, 185), (1776, 1785), (8304, 8304), (8308, 8313), (8320, 8329), (65296, 65305)]
  | 5 => [(1536, 1541), (1632, 1641), (1643, 1644), (1757, 1757)]
  | 6 => [(43, 43), (45, 45), (8314, 8315), (8330, 8331), (8722, 8722), (65291, 65291), (65293, 65293)]
  | 7 => [(35, 37), (162, 165), (176, 177), (1642, 1642), (8240, 8244), (8352, 8399), (65283, 65285)]
  | 8 => [(44, 44), (46, 47), (58, 58), (160, 160), (1548, 1548), (8239, 8239), (8260, 8260), (65292, 65292), (65294, 65295), (65306, 65306)]
  | 9 => [(8294, 8294)]
  | 10 => [(8295, 8295)]
  | 11 => [(8296, 8296)]
  | 12 => [(8297, 8297)]
  | 13 => [(768, 879), (1155, 1161), (1425, 1469), (1471, 1471), (1473, 1474), (1476, 1477), (1479, 1479), (1552, 1562), (1611, 1631), (1648, 1648), (1750, 1756), (1759, 1764), (1767, 1768), (1770, 1773), (8400, 8447), (65024, 65039), (65056, 65071), (917760, 917999)]
  | 14 => [(1536, 1983), (2208, 2303), (64336, 65023), (65136, 65278)]
  | 15 => [(1424, 1535), (1984, 2207), (8207, 8207), (64285, 64335), (67584, 69631), (124928, 126975)]
  | 16 => [(0, 8), (14, 27), (33, 34), (38, 42), (59, 64), (91, 96), (123, 132), (134, 159), (161, 161), (166, 169), (171, 175), (180, 180), (182, 184), (187, 191), (215, 215), (247, 247), (8203, 8205), (8208, 8231), (8234, 8238), (8245, 8286), (8288, 8293), (8298, 8303), (8316, 8318), (8332, 8334), (8592, 8721), (8723, 11263), (12289, 12292), (12296, 12320), (12336, 12336), (65279, 65279), (65281, 65282), (65286, 65290), (65307, 65312), (65339, 65344), (65371, 65381), (65529, 65533)]
  | _ => []
/-- The class of a rune, looked for from the last n classes on. -/
def clsF (r : Int) : Nat → Nat
  | 0 => 17
  | n + 1 => if C.inR (rgs (16 - n)) r then 16 - n else clsF r n
def cls (r : Int) : Nat := clsF r 16
theorem clsF_le (r : Int) (n : Nat) (h : n ≤ 16) : 1 ≤ clsF r n ∧ clsF r n ≤ 17 := by
  induction n with
  | zero => unfold clsF; omega
  | succ n ih =>
    have := ih (by omega)
    unfold clsF; split <;> omega
theorem cls_le (r : Int) : 1 ≤ cls r ∧ cls r ≤ 17 := clsF_le r 16 (Nat.le_refl _)
/-- The mirrored pairs. -/
def prs : List Int := [40, 41, 60, 62, 91, 93, 123, 125, 171, 187, 8249, 8250, 8261, 8262, 8317, 8318, 8333, 8334, 8712, 8715, 8804, 8805, 8810, 8811, 10216, 10217, 12296, 12297, 12298, 12299, 12300, 12301, 12302, 12303, 12304, 12305, 12308, 12309, 65288, 65289, 65308, 65310, 65339, 65341, 65371, 65373]
def mirF : List Int → Int → Int
  | a :: b :: l, r => if r = a then b else if r = b then a else mirF l r
  | _, r => r
def mir (r : Int) : Int := mirF prs r

/-- An isolate's begin; that, or its end. -/
def isOp (c : Nat) : Bool := decide (9 ≤ c) && decide (c ≤ 11)
def isIso (c : Nat) : Bool := decide (9 ≤ c) && decide (c ≤ 12)
/-- What rule 8 looks at. -/
def neu (c : Nat) : Bool := decide (c = 1) || decide (c = 2) || decide (c = 3) || decide (c = 16) || isIso c
/-- As a plain one. -/
def nz (c : Nat) : Nat := if isIso c then 16 else c

/-! Isolates matched. c: the classes; e: where the paragraph ends, but ahead of a B. -/
structure M where
  cl : Nat → Nat
  st : Nat → Nat
  h : Nat
  pl : Nat
  ch : Nat → Nat
def set (f : Nat → Nat) (i v : Nat) : Nat → Nat := fun j => if j = i then v else f j
theorem set_at (f : Nat → Nat) (i v : Nat) : set f i v i = v := if_pos rfl
theorem set_ne (f : Nat → Nat) {i j : Nat} (v : Nat) (h : j ≠ i) : set f i v j = f j := if_neg h
def mstep (c : Nat → Nat) (e : Nat) (m : M) (i : Nat) : M :=
  if isOp (c i) then
    if m.h = 60 then { m with pl := m.pl + 1, ch := set m.ch i 16 }
    else { m with cl := set m.cl i e, st := set m.st m.h i, h := m.h + 1 }
  else if c i = 12 then
    if 0 < m.pl then { m with pl := m.pl - 1, ch := set m.ch i 16 }
    else if 0 < m.h then { m with cl := set m.cl (m.st (m.h - 1)) i, h := m.h - 1 }
    else { m with ch := set m.ch i 16 }
  else m
def mrun (c : Nat → Nat) (e : Nat) : Nat → M
  | 0 => ⟨fun _ => 0, fun _ => 0, 0, 0, c⟩
  | i + 1 => mstep c e (mrun c e i) i
/-- The paragraph's end, but ahead of a B. -/
def pend (c : Nat → Nat) (n : Nat) : Nat := if 0 < n ∧ c (n - 1) = 1 then n - 1 else n
def clo (c : Nat → Nat) (n : Nat) : Nat → Nat := (mrun c (pend c n) (pend c n)).cl
def chg (c : Nat → Nat) (n : Nat) : Nat → Nat := (mrun c (pend c n) (pend c n)).ch

structure MOk (c : Nat → Nat) (e i : Nat) (m : M) : Prop where
  h : m.h ≤ 60
  hi : m.h ≤ i
  pl : m.pl ≤ i
  st_lt : ∀ k, k < m.h → m.st k < i
  st_inc : ∀ a b, a < b → b < m.h → m.st a < m.st b
  st_cl : ∀ k, k < m.h → m.cl (m.st k) = e ∧ m.ch (m.st k) = c (m.st k)
  done : ∀ x, m.cl x ≠ 0 → x < i ∧ ((∃ k, k < m.h ∧ m.st k = x) ∨ (x < m.cl x ∧ m.cl x < i))
  op : ∀ x, m.cl x ≠ 0 → isOp (c x) = true ∧ m.ch x = c x
  nest : ∀ x y, x < y → (¬ ∃ k, k < m.h ∧ m.st k = x) → y < m.cl x → (¬ ∃ k, k < m.h ∧ m.st k = y) ∧ m.cl y ≤ m.cl x
  ch : ∀ x, nz (m.ch x) = nz (c x)
  ch_out : ∀ x, i ≤ x → m.ch x = c x
theorem mok (c : Nat → Nat) (e : Nat) (he : 0 < e) : ∀ i, i ≤ e → MOk c e i (mrun c e i) := by
  intro i
  induction i with
  | zero =>
    intro _
    exact ⟨Nat.zero_le _, Nat.zero_le _, Nat.zero_le _, fun k h => absurd h (Nat.not_lt_zero _), fun a b _ h => absurd h (Nat.not_lt_zero _), fun k h => absurd h (Nat.not_lt_zero _), fun x h => absurd rfl h, fun x h => absurd rfl h, fun x y _ _ h => absurd h (Nat.not_lt_zero _), fun _ => rfl, fun _ _ => rfl⟩
  | succ i ih =>
    intro hi
    have m := ih (by omega)
    show MOk c e (i + 1) (mstep c e (mrun c e i) i)
    obtain ⟨q, hq⟩ : ∃ q, mrun c e i = q := ⟨_, rfl⟩
    rw [hq] at m ⊢
    have hci : q.cl i = 0 := by
      rcases Nat.eq_zero_or_pos (q.cl i) with h | h
      · exact h
      · have := (m.done i (by omega)).1; omega
    have chi := m.ch_out i (Nat.le_refl _)
    have plainly : MOk c e (i + 1) q := ⟨m.h, by have := m.hi; omega, by have := m.pl; omega, fun k h => Nat.lt_succ_of_lt (m.st_lt k h), m.st_inc, m.st_cl, fun x h => ⟨Nat.lt_succ_of_lt (m.done x h).1, (m.done x h).2.elim .inl (fun h => .inr ⟨h.1, Nat.lt_succ_of_lt h.2⟩)⟩, m.op, m.nest, m.ch, fun x h => m.ch_out x (by omega)⟩
    have turned : isIso (c i) = true → ∀ p, p ≤ i + 1 → MOk c e (i + 1) { q with pl := p, ch := set q.ch i 16 } := fun ho p hp => by
      have hn : nz 16 = nz (c i) := by rw [show nz 16 = 16 from rfl]; exact (if_pos ho).symm
      refine ⟨plainly.h, plainly.hi, hp, plainly.st_lt, plainly.st_inc, fun k h => ⟨(m.st_cl k h).1, ?_⟩, plainly.done, fun x h => ⟨(m.op x h).1, ?_⟩, plainly.nest, fun x => ?_, fun x h => ?_⟩
      · have := m.st_lt k h
        show set q.ch i 16 (q.st k) = _
        rw [set_ne _ _ (by omega)]; exact (m.st_cl k h).2
      · show set q.ch i 16 x = _
        have := (m.done x h).1
        rw [set_ne _ _ (by omega)]; exact (m.op x h).2
      · show nz (set q.ch i 16 x) = _
        by_cases hx : x = i
        · subst hx; rw [set_at]; exact hn
        · rw [set_ne _ _ hx]; exact m.ch x
      · show set q.ch i 16 x = _
        rw [set_ne _ _ (by omega)]; exact m.ch_out x (by omega)
    unfold mstep
    by_cases ho : isOp (c i) = true
    · rw [if_pos ho]
      have hiso : isIso (c i) = true := by simp [isOp] at ho; simp [isIso]; omega
      by_cases h60 : q.h = 60
      · rw [if_pos h60]; exact turned hiso _ (by have := m.pl; omega)
      · rw [if_neg h60]
        have hh := m.h
        have hst : ∀ k, k < q.h → set q.st q.h i k = q.st k := fun k h => set_ne _ _ (by omega)
        refine ⟨by show q.h + 1 ≤ 60; omega, by show q.h + 1 ≤ i + 1; have := m.hi; omega, by show q.pl ≤ _; have := m.pl; omega, fun k (h : k < q.h + 1) => ?_, fun a b hab (h : b < q.h + 1) => ?_, fun k (h : k < q.h + 1) => ?_, fun x (h : set q.cl i e x ≠ 0) => ?_, fun x (h : set q.cl i e x ≠ 0) => ?_, fun x y hxy hn hy => ?_, m.ch, fun x h => m.ch_out x (by omega)⟩
        · show set q.st q.h i k < i + 1
          by_cases hk : k = q.h
          · subst hk; rw [set_at]; omega
          · rw [set_ne _ _ hk]; have := m.st_lt k (by omega); omega
        · show set q.st q.h i a < set q.st q.h i b
          rw [set_ne _ _ (show a ≠ q.h by omega)]
          by_cases hk : b = q.h
          · subst hk; rw [set_at]; exact m.st_lt a (by omega)
          · rw [set_ne _ _ hk]; exact m.st_inc a b hab (by omega)
        · show set q.cl i e (set q.st q.h i k) = e ∧ q.ch (set q.st q.h i k) = c (set q.st q.h i k)
          by_cases hk : k = q.h
          · subst hk; rw [set_at, set_at]; exact ⟨rfl, chi⟩
          · rw [set_ne _ _ hk]
            have := m.st_lt k (by omega)
            rw [set_ne _ _ (by omega)]
            exact m.st_cl k (by omega)
        · by_cases hx : x = i
          · subst hx
            exact ⟨Nat.lt_succ_self _, .inl ⟨q.h, by show q.h < q.h + 1; omega, set_at _ _ _⟩⟩
          · rw [set_ne _ _ hx] at h
            obtain ⟨h1, h2⟩ := m.done x h
            refine ⟨by omega, h2.elim (fun ⟨k, hk, e⟩ => .inl ⟨k, by show k < q.h + 1; omega, (hst k hk).trans e⟩) (fun h2 => .inr ?_)⟩
            show x < set q.cl i e x ∧ set q.cl i e x < i + 1
            rw [set_ne _ _ hx]; omega
        · by_cases hx : x = i
          · subst hx; exact ⟨ho, chi⟩
          · rw [set_ne _ _ hx] at h
            exact m.op x h
        · have hxi : x ≠ i := fun hx => hn ⟨q.h, by show q.h < q.h + 1; omega, (set_at _ _ _).trans hx.symm⟩
          change y < set q.cl i e x at hy
          show _ ∧ set q.cl i e y ≤ set q.cl i e x
          rw [set_ne _ _ hxi] at hy ⊢
          have hn' : ¬ ∃ k, k < q.h ∧ q.st k = x := fun ⟨k, hk, e⟩ => hn ⟨k, by show k < q.h + 1; omega, (hst k hk).trans e⟩
          have hxd := m.done x (by omega)
          have hyi : y ≠ i := by
            rcases hxd.2 with h | h
            · exact absurd h hn'
            · omega
          obtain ⟨h1, h2⟩ := m.nest x y hxy hn' hy
          refine ⟨fun ⟨k, hk, e⟩ => ?_, by rw [set_ne _ _ hyi]; exact h2⟩
          change k < q.h + 1 at hk
          change set q.st q.h i k = y at e
          by_cases hkh : k = q.h
          · subst hkh; rw [set_at] at e; exact hyi e.symm
          · rw [set_ne _ _ hkh] at e; exact h1 ⟨k, by omega, e⟩
    · rw [if_neg ho]
      by_cases h12 : c i = 12
      · rw [if_pos h12]
        have hiso : isIso (c i) = true := by rw [h12]; rfl
        by_cases hp : 0 < q.pl
        · rw [if_pos hp]; exact turned hiso _ (by have := m.pl; omega)
        · rw [if_neg hp]
          by_cases hh : 0 < q.h
          · rw [if_pos hh]
            obtain ⟨o, hoo⟩ : ∃ o, q.st (q.h - 1) = o := ⟨_, rfl⟩
            rw [hoo]
            have ho1 := m.st_lt (q.h - 1) (by omega)
            have ho2 := m.st_cl (q.h - 1) (by omega)
            rw [hoo] at ho1 ho2
            have hon : ∀ k, k < q.h - 1 → q.st k < o := fun k hk => by have := m.st_inc k (q.h - 1) hk (by omega); omega
            have hoc : q.cl o ≠ 0 := by rw [ho2.1]; omega
            refine ⟨by show q.h - 1 ≤ 60; have := m.h; omega, by show q.h - 1 ≤ _; have := m.hi; omega, by show q.pl ≤ _; have := m.pl; omega, fun k (h : k < q.h - 1) => by show q.st k < _; have := m.st_lt k (by omega); omega, fun a b hab (h : b < q.h - 1) => m.st_inc a b hab (by omega), fun k (h : k < q.h - 1) => ?_, fun x (h : set q.cl o i x ≠ 0) => ?_, fun x (h : set q.cl o i x ≠ 0) => ?_, fun x y hxy hn hy => ?_, m.ch, fun x h => m.ch_out x (by omega)⟩
            · show set q.cl o i (q.st k) = e ∧ _
              have := hon k h
              rw [set_ne _ _ (by omega)]
              exact m.st_cl k (by omega)
            · by_cases hx : x = o
              · subst hx
                refine ⟨by omega, .inr ?_⟩
                show x < set q.cl x i x ∧ set q.cl x i x < i + 1
                rw [set_at]; omega
              · rw [set_ne _ _ hx] at h
                obtain ⟨h1, h2⟩ := m.done x h
                refine ⟨by omega, h2.elim (fun ⟨k, hk, e⟩ => .inl ⟨k, ?_, e⟩) (fun h2 => .inr ?_)⟩
                · show k < q.h - 1
                  by_cases hkk : k = q.h - 1
                  · subst hkk; exact absurd (e.symm.trans hoo) hx
                  · omega
                · show x < set q.cl o i x ∧ set q.cl o i x < i + 1
                  rw [set_ne _ _ hx]; omega
            · by_cases hx : x = o
              · subst hx; exact m.op x hoc
              · rw [set_ne _ _ hx] at h; exact m.op x h
            · change y < set q.cl o i x at hy
              show _ ∧ set q.cl o i y ≤ set q.cl o i x
              by_cases hx : x = o
              · subst hx
                rw [set_at] at hy ⊢
                have hyn : ¬ ∃ k, k < q.h ∧ q.st k = y := fun ⟨k, hk, e⟩ => by
                  by_cases hkk : k = q.h - 1
                  · subst hkk; omega
                  · have := hon k (by omega); omega
                refine ⟨fun ⟨k, hk, e⟩ => hyn ⟨k, by change k < q.h - 1 at hk; omega, e⟩, ?_⟩
                rw [set_ne _ _ (by omega)]
                rcases Nat.eq_zero_or_pos (q.cl y) with h0 | h0
                · omega
                · rcases (m.done y (by omega)).2 with h | h
                  · exact absurd h hyn
                  · omega
              · rw [set_ne _ _ hx] at hy ⊢
                have hn' : ¬ ∃ k, k < q.h ∧ q.st k = x := fun ⟨k, hk, e⟩ => hn ⟨k, by
                  show k < q.h - 1
                  by_cases hkk : k = q.h - 1
                  · subst hkk; exact absurd (e.symm.trans hoo) hx
                  · omega, e⟩
                obtain ⟨h1, h2⟩ := m.nest x y hxy hn' hy
                have hyo : y ≠ o := fun h => h1 ⟨q.h - 1, by omega, hoo.trans h.symm⟩
                exact ⟨fun ⟨k, hk, e⟩ => h1 ⟨k, by change k < q.h - 1 at hk; omega, e⟩, by rw [set_ne _ _ hyo]; exact h2⟩
          · rw [if_neg hh]
            exact turned hiso _ (by have := m.pl; omega)
      · rw [if_neg h12]
        exact plainly

/-- What is known of where isolates close. -/
structure Clo (c cl ch : Nat → Nat) (n : Nat) : Prop where
  lt : ∀ x, cl x ≠ 0 → x < cl x ∧ cl x ≤ n
  nest : ∀ x y, x < y → y < cl x → cl y ≤ cl x
  op : ∀ x, cl x ≠ 0 → isOp (c x) = true ∧ ch x = c x
  ch : ∀ x, nz (ch x) = nz (c x)
theorem clo_ok (c : Nat → Nat) (n : Nat) : Clo c (clo c n) (chg c n) n := by
  unfold clo chg
  have hle : pend c n ≤ n := by unfold pend; split <;> omega
  rcases Nat.eq_zero_or_pos (pend c n) with h | h
  · rw [h]
    exact ⟨fun x h => absurd rfl h, fun x y _ h => absurd h (Nat.not_lt_zero _), fun x h => absurd rfl h, fun _ => rfl⟩
  · have m := mok c (pend c n) h (pend c n) (Nat.le_refl _)
    have hlt : ∀ x, (mrun c (pend c n) (pend c n)).cl x ≠ 0 → x < (mrun c (pend c n) (pend c n)).cl x ∧ (mrun c (pend c n) (pend c n)).cl x ≤ pend c n := fun x hx => by
      obtain ⟨h1, h2⟩ := m.done x hx
      rcases h2 with ⟨k, hk, e⟩ | h2
      · have := (m.st_cl k hk).1
        rw [e] at this
        rw [this]; exact ⟨h1, Nat.le_refl _⟩
      · exact ⟨h2.1, by omega⟩
    refine ⟨fun x hx => ⟨(hlt x hx).1, Nat.le_trans (hlt x hx).2 hle⟩, fun x y hxy hy => ?_, m.op, m.ch⟩
    by_cases hs : ∃ k, k < (mrun c (pend c n) (pend c n)).h ∧ (mrun c (pend c n) (pend c n)).st k = x
    · obtain ⟨k, hk, e⟩ := hs
      have := (m.st_cl k hk).1
      rw [e] at this
      rw [this]
      rcases Nat.eq_zero_or_pos ((mrun c (pend c n) (pend c n)).cl y) with h0 | h0
      · omega
      · exact (hlt y (by omega)).2
    · exact (m.nest x y hxy hs hy).2

/-! A row: its items, one behind the other. -/
def nx (cl : Nat → Nat) (i : Nat) : Nat := if cl i = 0 then i + 1 else cl i
def itm (cl : Nat → Nat) (from_ : Nat) : Nat → Nat
  | 0 => from_
  | n + 1 => nx cl (itm cl from_ n)
def cntF (cl : Nat → Nat) (to : Nat) : Nat → Nat → Nat
  | 0, _ => 0
  | f + 1, i => if i < to then cntF cl to f (nx cl i) + 1 else 0
def cnt (cl : Nat → Nat) (from_ to : Nat) : Nat := cntF cl to (to - from_) from_
/-- The number of the item over a place. -/
def locF (cl : Nat → Nat) (k : Nat) : Nat → Nat → Nat
  | 0, _ => 0
  | f + 1, i => if k < nx cl i then 0 else locF cl k f (nx cl i) + 1
def loc (cl : Nat → Nat) (from_ k : Nat) : Nat := locF cl k (k + 1 - from_) from_
/-- Each closing place lies behind. -/
def Up (cl : Nat → Nat) : Prop := ∀ x, cl x ≠ 0 → x < cl x
theorem nx_lt {cl : Nat → Nat} (h : Up cl) (i : Nat) : i < nx cl i := by
  unfold nx; split
  · omega
  · exact h i ‹_›
theorem cntF_spec {cl : Nat → Nat} (h : Up cl) (to : Nat) : ∀ (f i : Nat), to - i ≤ f → ∀ n, n < cntF cl to f i ↔ itm cl i n < to := by
  intro f
  induction f with
  | zero =>
    intro i hf n
    have hin : ∀ n, i ≤ itm cl i n := fun n => by
      induction n with
      | zero => exact Nat.le_refl _
      | succ n ih => have := nx_lt h (itm cl i n); show i ≤ nx cl (itm cl i n); omega
    have := hin n
    unfold cntF; omega
  | succ f ih =>
    intro i hf n
    unfold cntF
    have hsh : ∀ n, itm cl i (n + 1) = itm cl (nx cl i) n := fun n => by
      induction n with
      | zero => rfl
      | succ n ih => show nx cl (itm cl i (n + 1)) = nx cl (itm cl (nx cl i) n); rw [ih]
    by_cases hi : i < to
    · rw [if_pos hi]
      cases n with
      | zero => show 0 < _ ↔ i < to; omega
      | succ n =>
        rw [hsh]
        have := nx_lt h i
        rw [← ih (nx cl i) (by omega) n]; omega
    · rw [if_neg hi]
      have hin : ∀ n, i ≤ itm cl i n := fun n => by
        induction n with
        | zero => exact Nat.le_refl _
        | succ n ih => have := nx_lt h (itm cl i n); show i ≤ nx cl (itm cl i n); omega
      have := hin n
      omega
theorem cnt_spec {cl : Nat → Nat} (h : Up cl) (from_ to n : Nat) : n < cnt cl from_ to ↔ itm cl from_ n < to := cntF_spec h to _ _ (Nat.le_refl _) n
theorem itm_ge {cl : Nat → Nat} (h : Up cl) (i : Nat) : ∀ n, i + n ≤ itm cl i n := fun n => by
  induction n with
  | zero => exact Nat.le_refl _
  | succ n ih => have := nx_lt h (itm cl i n); show i + (n + 1) ≤ nx cl (itm cl i n); omega
theorem itm_lt {cl : Nat → Nat} (h : Up cl) (i a : Nat) : ∀ b, a < b → itm cl i a < itm cl i b := fun b => by
  induction b with
  | zero => intro h; omega
  | succ b ih =>
    intro hab
    have := nx_lt h (itm cl i b)
    show _ < nx cl (itm cl i b)
    by_cases e : a = b
    · subst e; exact this
    · have := ih (by omega); omega
theorem cnt_le {cl : Nat → Nat} (h : Up cl) (from_ to : Nat) : cnt cl from_ to ≤ to - from_ := by
  rcases Nat.eq_zero_or_pos (cnt cl from_ to) with h0 | h0
  · omega
  · have h1 := (cnt_spec h from_ to (cnt cl from_ to - 1)).1 (by omega)
    have := itm_ge h from_ (cnt cl from_ to - 1)
    omega
theorem locF_spec {cl : Nat → Nat} (h : Up cl) (k : Nat) : ∀ (f i : Nat), i ≤ k → k + 1 - i ≤ f → itm cl i (locF cl k f i) ≤ k ∧ k < itm cl i (locF cl k f i + 1) := by
  intro f
  induction f with
  | zero => intro i h1 h2; omega
  | succ f ih =>
    intro i h1 h2
    have hsh : ∀ n, itm cl i (n + 1) = itm cl (nx cl i) n := fun n => by
      induction n with
      | zero => rfl
      | succ n ih => show nx cl (itm cl i (n + 1)) = nx cl (itm cl (nx cl i) n); rw [ih]
    unfold locF
    have hn := nx_lt h i
    by_cases hk : k < nx cl i
    · rw [if_pos hk]; exact ⟨h1, hk⟩
    · rw [if_neg hk, hsh, hsh]
      exact ih (nx cl i) (by omega) (by omega)
theorem loc_spec {cl : Nat → Nat} (h : Up cl) (from_ k : Nat) (hk : from_ ≤ k) : itm cl from_ (loc cl from_ k) ≤ k ∧ k < itm cl from_ (loc cl from_ k + 1) := locF_spec h k _ _ hk (Nat.le_refl _)
theorem loc_is {cl : Nat → Nat} (h : Up cl) (from_ k n : Nat) (h1 : itm cl from_ n ≤ k) (h2 : k < itm cl from_ (n + 1)) : loc cl from_ k = n := by
  have hf := itm_ge h from_ n
  obtain ⟨h3, h4⟩ := loc_spec h from_ k (by omega)
  rcases Nat.lt_trichotomy (loc cl from_ k) n with hl | hl | hl
  · by_cases e : loc cl from_ k + 1 = n
    · rw [e] at h4; omega
    · have := itm_lt h from_ (loc cl from_ k + 1) n (by omega); omega
  · exact hl
  · by_cases e : n + 1 = loc cl from_ k
    · rw [← e] at h3; omega
    · have := itm_lt h from_ (n + 1) (loc cl from_ k) (by omega); omega

/-! The rules over a row's classes l 0, .., l (m - 1). -/
/-- The nearest one ahead of some classes. -/
def ahd (S : Nat → Bool) (l : Nat → Nat) (side : Nat) : Nat → Nat
  | 0 => side
  | n + 1 => if S (l n) then l n else ahd S l side n
def S3 (c : Nat) : Bool := decide (c = 17) || decide (c = 15) || decide (c = 14)
def S2 (c : Nat) : Bool := decide (c = 17) || decide (c = 15)
def v1 (side : Nat) (l : Nat → Nat) : Nat → Nat
  | 0 => if l 0 = 13 then side else l 0
  | j + 1 => if l (j + 1) = 13 then (if isIso (v1 side l j) then 16 else v1 side l j) else l (j + 1)
def v2 (side : Nat) (l : Nat → Nat) (j : Nat) : Nat := if l j = 4 ∧ ahd S3 l side j = 14 then 5 else l j
def v3 (l : Nat → Nat) (j : Nat) : Nat := if l j = 14 then 15 else l j
def v4 (m : Nat) (l : Nat → Nat) : Nat → Nat
  | 0 => l 0
  | j + 1 => if j + 2 < m ∧ v4 m l j = l (j + 2) ∧ (l (j + 1) = 6 ∧ v4 m l j = 4 ∨ l (j + 1) = 8 ∧ (v4 m l j = 4 ∨ v4 m l j = 5)) then v4 m l j else l (j + 1)
/-- Where the stretch over a place begins, where one ends that reaches to there. -/
def lft (p : Nat → Bool) (l : Nat → Nat) : Nat → Nat
  | 0 => 0
  | j + 1 => if p (l j) then lft p l j else j + 1
def rgtF (p : Nat → Bool) (l : Nat → Nat) (m : Nat) : Nat → Nat → Nat
  | 0, j => j
  | f + 1, j => if j < m ∧ p (l j) = true then rgtF p l m f (j + 1) else j
def rgt (p : Nat → Bool) (l : Nat → Nat) (m j : Nat) : Nat := rgtF p l m (m - j) j
def isET (c : Nat) : Bool := decide (c = 7)
def F5 (m : Nat) (l : Nat → Nat) (i j : Nat) : Nat := if (0 < i ∧ l (i - 1) = 4) ∨ (j < m ∧ l j = 4) then 4 else 7
/-- A value over each longest stretch. -/
def ov (p : Nat → Bool) (F : Nat → Nat → Nat) (m : Nat) (l : Nat → Nat) (j : Nat) : Nat := if p (l j) then F (lft p l j) (rgt p l m j) else l j
def v5 (m : Nat) (l : Nat → Nat) : Nat → Nat := ov isET (F5 m l) m l
def v6 (l : Nat → Nat) (j : Nat) : Nat := if l j = 6 ∨ l j = 7 ∨ l j = 8 then 16 else l j
def v7 (side : Nat) (l : Nat → Nat) (j : Nat) : Nat := if l j = 4 ∧ ahd S2 l side j = 17 then 17 else l j
def F8 (side m : Nat) (l : Nat → Nat) (i j : Nat) : Nat :=
  if (if 0 < i then l (i - 1) else side) = 17 ∧ (if j < m then l j else side) = 17 then 17
  else if (if 0 < i then l (i - 1) else side) ≠ 17 ∧ (if j < m then l j else side) ≠ 17 then 15 else side
def v8 (side m : Nat) (l : Nat → Nat) : Nat → Nat := ov neu (F8 side m l) m l
def wk (side m : Nat) (l : Nat → Nat) : Nat → Nat := v7 side (v6 (v5 m (v4 m (v3 (v2 side (v1 side l))))))
def res (side m : Nat) (l : Nat → Nat) : Nat → Nat := v8 side m (wk side m l)

theorem rgtF_spec (p : Nat → Bool) (l : Nat → Nat) (m : Nat) : ∀ (f j : Nat), m - j ≤ f → j ≤ m → j ≤ rgtF p l m f j ∧ rgtF p l m f j ≤ m ∧ (∀ k, j ≤ k → k < rgtF p l m f j → p (l k) = true) ∧ (rgtF p l m f j < m → p (l (rgtF p l m f j)) = false) := by
  intro f
  induction f with
  | zero => intro j h1 h2; unfold rgtF; exact ⟨Nat.le_refl _, h2, fun k h1 h2 => by omega, fun h => by omega⟩
  | succ f ih =>
    intro j h1 h2
    unfold rgtF
    by_cases hc : j < m ∧ p (l j) = true
    · rw [if_pos hc]
      obtain ⟨i1, i2, i3, i4⟩ := ih (j + 1) (by omega) (by omega)
      exact ⟨by omega, i2, fun k hk h => by
        by_cases e : k = j
        · subst e; exact hc.2
        · exact i3 k (by omega) h, i4⟩
    · rw [if_neg hc]
      exact ⟨Nat.le_refl _, h2, fun k h1 h2 => by omega, fun h => by
        cases hp : p (l j) with
        | false => rfl
        | true => exact absurd ⟨h, hp⟩ hc⟩
theorem rgt_spec (p : Nat → Bool) (l : Nat → Nat) (m j : Nat) (h : j ≤ m) : j ≤ rgt p l m j ∧ rgt p l m j ≤ m ∧ (∀ k, j ≤ k → k < rgt p l m j → p (l k) = true) ∧ (rgt p l m j < m → p (l (rgt p l m j)) = false) := rgtF_spec p l m _ _ (Nat.le_refl _) h
theorem rgt_is (p : Nat → Bool) (l : Nat → Nat) (m j q : Nat) (h1 : j ≤ q) (h2 : q ≤ m) (h3 : ∀ k, j ≤ k → k < q → p (l k) = true) (h4 : q < m → p (l q) = false) : rgt p l m j = q := by
  obtain ⟨i1, i2, i3, i4⟩ := rgt_spec p l m j (by omega)
  rcases Nat.lt_trichotomy (rgt p l m j) q with h | h | h
  · have := i4 (by omega); rw [h3 _ i1 h] at this; cases this
  · exact h
  · have := i3 q h1 h; rw [h4 (by omega)] at this; cases this
theorem lft_le (p : Nat → Bool) (l : Nat → Nat) : ∀ j, lft p l j ≤ j := by
  intro j
  induction j with
  | zero => exact Nat.le_refl _
  | succ j ih => unfold lft; split <;> omega
theorem lft_is (p : Nat → Bool) (l : Nat → Nat) (i : Nat) (hi : i = 0 ∨ p (l (i - 1)) = false) : ∀ d, (∀ k, i ≤ k → k < i + d → p (l k) = true) → lft p l (i + d) = i := by
  intro d
  induction d with
  | zero =>
    intro _
    rcases hi with rfl | hi
    · rfl
    · cases i with
      | zero => rfl
      | succ i => show lft p l (i + 1) = i + 1; unfold lft; rw [if_neg (by simpa using hi)]
  | succ d ih =>
    intro h
    show lft p l (i + d + 1) = i
    unfold lft
    rw [if_pos (h (i + d) (by omega) (by omega))]
    exact ih (fun k h1 h2 => h k h1 (by omega))
/-- Over a stretch, each place has one value. -/
theorem ov_in (p : Nat → Bool) (F : Nat → Nat → Nat) (m : Nat) (l : Nat → Nat) (i j k : Nat) (hi : i = 0 ∨ p (l (i - 1)) = false) (hj : rgt p l m i = j) (hm : i ≤ m) (h1 : i ≤ k) (h2 : k < j) : ov p F m l k = F i j := by
  obtain ⟨i1, i2, i3, i4⟩ := rgt_spec p l m i hm
  rw [hj] at i1 i2 i3 i4
  unfold ov
  rw [if_pos (i3 k h1 h2)]
  have e1 : lft p l k = i := by
    have := lft_is p l i hi (k - i) (fun q h3 h4 => i3 q h3 (by omega))
    rwa [show i + (k - i) = k by omega] at this
  have e2 : rgt p l m k = j := rgt_is p l m k j (by omega) i2 (fun q h3 h4 => i3 q (by omega) h4) i4
  rw [e1, e2]

/-! What is plain or not makes no difference. -/
theorem nz_iso (c : Nat) (h : isIso c = true) : nz c = 16 := if_pos h
theorem nz_not (c : Nat) (h : isIso c = false) : nz c = c := if_neg (by simp [h])
theorem nz_eq (c d : Nat) (hd : isIso d = false) (h16 : d ≠ 16) : nz c = d ↔ c = d := by
  cases h : isIso c with
  | false => rw [nz_not c h]
  | true =>
    rw [nz_iso c h]
    exact ⟨fun e => absurd e.symm h16, fun e => by subst e; rw [h] at hd; cases hd⟩
theorem nz_nz (c : Nat) : nz (nz c) = nz c := by
  cases h : isIso c with
  | false => rw [nz_not c h, nz_not c h]
  | true => rw [nz_iso c h]; rfl
def nzF (l : Nat → Nat) : Nat → Nat := fun j => nz (l j)
theorem ahd_nz (S : Nat → Bool) (hS : ∀ c, S c = true → isIso c = false ∧ c ≠ 16) (hS2 : S 16 = false) (l : Nat → Nat) (side : Nat) : ∀ n, ahd S (nzF l) side n = ahd S l side n := by
  intro n
  induction n with
  | zero => rfl
  | succ n ih =>
    unfold ahd
    cases h : isIso (l n) with
    | false => rw [show nzF l n = l n from nz_not _ h, ih]
    | true =>
      have h1 : S (l n) = false := by
        cases hs : S (l n) with
        | false => rfl
        | true => have := (hS _ hs).1; rw [h] at this; cases this
      rw [show nzF l n = 16 from nz_iso _ h, if_neg (by simp [hS2]), if_neg (by simp [h1]), ih]
theorem S3_ok : ∀ c, S3 c = true → isIso c = false ∧ c ≠ 16 := by
  intro c h
  simp only [S3, Bool.or_eq_true, decide_eq_true_eq] at h
  rcases h with (h | h) | h <;> subst h <;> exact ⟨rfl, by decide⟩
theorem S2_ok : ∀ c, S2 c = true → isIso c = false ∧ c ≠ 16 := by
  intro c h
  simp only [S2, Bool.or_eq_true, decide_eq_true_eq] at h
  rcases h with h | h <;> subst h <;> exact ⟨rfl, by decide⟩
theorem v1_nz (side : Nat) (hs : isIso side = false) (l : Nat → Nat) : v1 side (nzF l) = nzF (v1 side l) := by
  funext j
  show _ = nz (v1 side l j)
  induction j with
  | zero =>
    show (if nz (l 0) = 13 then side else nz (l 0)) = nz (if l 0 = 13 then side else l 0)
    have := nz_eq (l 0) 13 rfl (by decide)
    by_cases h : l 0 = 13
    · rw [if_pos (this.2 h), if_pos h, nz_not _ hs]
    · rw [if_neg (fun e => h (this.1 e)), if_neg h]
  | succ j ih =>
    show (if nz (l (j + 1)) = 13 then (if isIso (v1 side (nzF l) j) then 16 else v1 side (nzF l) j) else nz (l (j + 1))) = nz (if l (j + 1) = 13 then (if isIso (v1 side l j) then 16 else v1 side l j) else l (j + 1))
    have := nz_eq (l (j + 1)) 13 rfl (by decide)
    by_cases h : l (j + 1) = 13
    · rw [if_pos (this.2 h), if_pos h, ih]
      cases hq : isIso (v1 side l j) with
      | true => rw [nz_iso _ hq, if_neg (by decide), if_pos rfl]; rfl
      | false => rw [nz_not _ hq, hq, if_neg (by simp)]; exact (nz_not _ hq).symm
    · rw [if_neg (fun e => h (this.1 e)), if_neg h]
theorem v2_nz (side : Nat) (l : Nat → Nat) : v2 side (nzF l) = nzF (v2 side l) := by
  funext j
  show (if nz (l j) = 4 ∧ _ then 5 else nz (l j)) = nz (v2 side l j)
  rw [ahd_nz S3 S3_ok rfl]
  unfold v2
  simp only [nz_eq (l j) 4 rfl (by decide)]
  by_cases h : l j = 4 ∧ ahd S3 l side j = 14
  · rw [if_pos h, if_pos h]; rfl
  · rw [if_neg h, if_neg h]
theorem v3_nz (l : Nat → Nat) : v3 (nzF l) = nzF (v3 l) := by
  funext j
  show (if nz (l j) = 14 then 15 else nz (l j)) = nz (v3 l j)
  unfold v3
  simp only [nz_eq (l j) 14 rfl (by decide)]
  by_cases h : l j = 14
  · rw [if_pos h, if_pos h]; rfl
  · rw [if_neg h, if_neg h]
theorem v4_nz (m : Nat) (l : Nat → Nat) : v4 m (nzF l) = nzF (v4 m l) := by
  funext j
  show _ = nz (v4 m l j)
  induction j with
  | zero => rfl
  | succ j ih =>
    unfold v4
    rw [ih]
    show (if j + 2 < m ∧ nz (v4 m l j) = nz (l (j + 2)) ∧ (nz (l (j + 1)) = 6 ∧ nz (v4 m l j) = 4 ∨ nz (l (j + 1)) = 8 ∧ (nz (v4 m l j) = 4 ∨ nz (v4 m l j) = 5)) then nz (v4 m l j) else nz (l (j + 1))) = _
    simp only [nz_eq (l (j + 1)) 6 rfl (by decide), nz_eq (l (j + 1)) 8 rfl (by decide), nz_eq (v4 m l j) 4 rfl (by decide), nz_eq (v4 m l j) 5 rfl (by decide)]
    have key : (j + 2 < m ∧ nz (v4 m l j) = nz (l (j + 2)) ∧ (l (j + 1) = 6 ∧ v4 m l j = 4 ∨ l (j + 1) = 8 ∧ (v4 m l j = 4 ∨ v4 m l j = 5))) ↔ (j + 2 < m ∧ v4 m l j = l (j + 2) ∧ (l (j + 1) = 6 ∧ v4 m l j = 4 ∨ l (j + 1) = 8 ∧ (v4 m l j = 4 ∨ v4 m l j = 5))) := by
      have h4 := nz_eq (l (j + 2)) 4 rfl (by decide)
      have h5 := nz_eq (l (j + 2)) 5 rfl (by decide)
      constructor
      · rintro ⟨h1, h2, h3⟩
        refine ⟨h1, ?_, h3⟩
        have : v4 m l j = 4 ∨ v4 m l j = 5 := by omega
        rcases this with e | e
        · rw [e] at h2 ⊢; exact (h4.1 h2.symm).symm
        · rw [e] at h2 ⊢; exact (h5.1 h2.symm).symm
      · rintro ⟨h1, h2, h3⟩
        exact ⟨h1, by rw [h2], h3⟩
    by_cases h : j + 2 < m ∧ v4 m l j = l (j + 2) ∧ (l (j + 1) = 6 ∧ v4 m l j = 4 ∨ l (j + 1) = 8 ∧ (v4 m l j = 4 ∨ v4 m l j = 5))
    · rw [if_pos (key.2 h), if_pos h]
    · rw [if_neg (fun e => h (key.1 e)), if_neg h]
theorem lft_nz (p : Nat → Bool) (hp : ∀ c, p (nz c) = p c) (l : Nat → Nat) : ∀ j, lft p (nzF l) j = lft p l j := by
  intro j
  induction j with
  | zero => rfl
  | succ j ih => unfold lft; rw [show p (nzF l j) = p (l j) from hp _, ih]
theorem rgt_nz (p : Nat → Bool) (hp : ∀ c, p (nz c) = p c) (l : Nat → Nat) (m j : Nat) : rgt p (nzF l) m j = rgt p l m j := by
  unfold rgt
  obtain ⟨f, hf⟩ : ∃ f, m - j = f := ⟨_, rfl⟩
  rw [hf]
  clear hf
  induction f generalizing j with
  | zero => rfl
  | succ f ih => unfold rgtF; rw [show p (nzF l j) = p (l j) from hp _, ih]
theorem isET_nz (c : Nat) : isET (nz c) = isET c := by
  unfold isET
  rw [Bool.eq_iff_iff, decide_eq_true_eq, decide_eq_true_eq]
  exact nz_eq c 7 rfl (by decide)
theorem neu_nz (c : Nat) : neu (nz c) = neu c := by
  cases h : isIso c with
  | false => rw [nz_not c h]
  | true => rw [nz_iso c h]; unfold neu; rw [h]; simp
theorem v5_nz (m : Nat) (l : Nat → Nat) : v5 m (nzF l) = nzF (v5 m l) := by
  funext j
  show ov isET _ m _ j = nz (ov isET _ m l j)
  unfold ov
  rw [show isET (nzF l j) = isET (l j) from isET_nz _, lft_nz _ isET_nz, rgt_nz _ isET_nz]
  by_cases h : isET (l j) = true
  · rw [if_pos h, if_pos h]
    unfold F5
    show (if (0 < _ ∧ nz (l _) = 4) ∨ (_ < m ∧ nz (l _) = 4) then 4 else 7) = _
    simp only [nz_eq _ 4 rfl (by decide)]
    split <;> rfl
  · rw [if_neg h, if_neg h]; rfl
theorem v6_nz (l : Nat → Nat) : v6 (nzF l) = nzF (v6 l) := by
  funext j
  show (if nz (l j) = 6 ∨ nz (l j) = 7 ∨ nz (l j) = 8 then 16 else nz (l j)) = nz (v6 l j)
  unfold v6
  simp only [nz_eq _ 6 rfl (by decide), nz_eq _ 7 rfl (by decide), nz_eq _ 8 rfl (by decide)]
  split
  · rfl
  · rfl
theorem v7_nz (side : Nat) (l : Nat → Nat) : v7 side (nzF l) = nzF (v7 side l) := by
  funext j
  show (if nz (l j) = 4 ∧ _ then 17 else nz (l j)) = nz (v7 side l j)
  rw [ahd_nz S2 S2_ok rfl]
  unfold v7
  simp only [nz_eq _ 4 rfl (by decide)]
  split <;> rfl
theorem wk_nz (side m : Nat) (hs : isIso side = false) (l : Nat → Nat) : wk side m (nzF l) = nzF (wk side m l) := by
  unfold wk
  rw [v1_nz side hs, v2_nz, v3_nz, v4_nz, v5_nz, v6_nz, v7_nz]
theorem v8_nz (side m : Nat) (l : Nat → Nat) (j : Nat) (h : isIso (l j) = false → True) : v8 side m (nzF l) j = v8 side m l j := by
  show ov neu _ m _ j = ov neu _ m l j
  unfold ov
  rw [show neu (nzF l j) = neu (l j) from neu_nz _, lft_nz _ neu_nz, rgt_nz _ neu_nz]
  have e17 : ∀ a, (nz a = 17) = (a = 17) := fun a => propext (nz_eq a 17 rfl (by decide))
  have eif : ∀ (P : Prop) [Decidable P] (a : Nat), ((if P then nz a else side) = 17) = ((if P then a else side) = 17) := fun P _ a => by
    by_cases hP : P
    · rw [if_pos hP, if_pos hP, e17]
    · rw [if_neg hP, if_neg hP]
  by_cases hn : neu (l j) = true
  · rw [if_pos hn, if_pos hn]
    unfold F8
    show (if (if 0 < _ then nz (l _) else side) = 17 ∧ (if _ < m then nz (l _) else side) = 17 then 17 else if (if 0 < _ then nz (l _) else side) ≠ 17 ∧ (if _ < m then nz (l _) else side) ≠ 17 then 15 else side) = _
    simp only [ne_eq, eif]
  · rw [if_neg hn, if_neg hn]
    have : isIso (l j) = false := by
      cases hi : isIso (l j) with
      | false => rfl
      | true => exact absurd (by unfold neu; rw [hi]; simp) hn
    exact nz_not _ this
theorem res_nz (side m : Nat) (hs : isIso side = false) (a b : Nat → Nat) (h : nzF a = nzF b) : res side m a = res side m b := by
  funext j
  unfold res
  rw [← v8_nz side m (wk side m a) j (fun _ => trivial), ← v8_nz side m (wk side m b) j (fun _ => trivial), ← wk_nz side m hs, ← wk_nz side m hs, h]

/-- The side of a level. -/
def sid (e : Nat) : Nat := if e % 2 = 1 then 15 else 17
/-- The level of a class in a row at a level. -/
def lvl (e c : Nat) : Nat := if e % 2 = 1 then (if c = 15 then e else e + 1) else (if c = 15 then e + 1 else if c = 17 then e else e + 2)
/-- Of a row, by classes: the first L, R or AL: 17, 15, 14; 0: there is none. -/
def stgF (c : Nat → Nat) (it : Nat → Nat) : Nat → Nat → Nat
  | 0, _ => 0
  | f + 1, n => if S3 (c (it n)) then c (it n) else stgF c it f (n + 1)
def stg (c cl : Nat → Nat) (from_ to : Nat) : Nat := stgF c (itm cl from_) (cnt cl from_ to) 0
/-- Is what stands in an isolate from right to left? -/
def odd (c cl : Nat → Nat) (i : Nat) : Bool := if c i = 11 then decide (stg c cl (i + 1) (cl i) = 15 ∨ stg c cl (i + 1) (cl i) = 14) else decide (c i = 10)
def inn (c cl : Nat → Nat) (e i : Nat) : Nat := if (decide ((e + 1) % 2 = 1)) = odd c cl i then e + 1 else e + 2
/-- The level of a place of a row. -/
def lev (c cl : Nat → Nat) : Nat → Nat → Nat → Nat → Nat → Nat
  | 0, _, _, e, _ => e
  | f + 1, from_, to, e, k =>
    if itm cl from_ (loc cl from_ k) = k then lvl e (res (sid e) (cnt cl from_ to) (fun n => c (itm cl from_ n)) (loc cl from_ k))
    else lev c cl f (itm cl from_ (loc cl from_ k) + 1) (cl (itm cl from_ (loc cl from_ k))) (inn c cl e (itm cl from_ (loc cl from_ k))) k
/-- Rule 9: from the end. -/
def rimF (c : Nat → Nat) (m : Nat) : Nat → Bool
  | 0 => true
  | d + 1 => if c (m - 1 - d) = 1 ∨ c (m - 1 - d) = 2 then true else if c (m - 1 - d) = 3 ∨ isIso (c (m - 1 - d)) = true then rimF c m d else false
def plev (base : Nat) (c : Nat → Nat) (m k : Nat) : Nat :=
  if c k = 1 ∨ c k = 2 then base else if (c k = 3 ∨ isIso (c k) = true) ∧ rimF c m (m - 1 - k) = true then base else lev c (clo c m) m 0 m base k
/-- Where the paragraph over a place begins; where one ends that begins at a place. -/
def pbeg (c : Nat → Nat) : Nat → Nat
  | 0 => 0
  | k + 1 => if c k = 1 then k + 1 else pbeg c k
def pendF (c : Nat → Nat) (n : Nat) : Nat → Nat → Nat
  | 0, i => i
  | f + 1, i => if i < n then (if c i = 1 then i + 1 else pendF c n f (i + 1)) else i
def pfin (c : Nat → Nat) (n i : Nat) : Nat := pendF c n (n - i) i
def lvAll (base : Nat) (c : Nat → Nat) (n k : Nat) : Nat := plev base (fun j => c (pbeg c k + j)) (pfin c n (pbeg c k) - pbeg c k) (k - pbeg c k)

/-- One turn of the order: stretches at a level or above are turned round. -/
def trn (lv : Nat → Nat) (e m : Nat) (o : Nat → Nat) (k : Nat) : Nat :=
  if e ≤ lv (o k) then o (lft (fun x => decide (e ≤ lv x)) o k + rgt (fun x => decide (e ≤ lv x)) o m k - 1 - k) else o k
def ordF (lv : Nat → Nat) (m : Nat) : Nat → (Nat → Nat) → Nat → Nat
  | 0, o => o
  | e + 1, o => ordF lv m e (trn lv (e + 1) m o)
def most (lv : Nat → Nat) : Nat → Nat
  | 0 => 0
  | n + 1 => max (most lv n) (lv n)
def ord (lv : Nat → Nat) (m : Nat) : Nat → Nat := ordF lv m (most lv m) id
end Go.Proofs.Ytclblidfamabdaa.B

/- bidi.Class. -/
set_option linter.unusedVariables false
set_option linter.unusedSimpArgs false
namespace Go.Proofs.Ytclblidfamabdaa
open Go.RowKit Go.Shelf Go.Lib
attribute [local go_sem] Oper.semAt_some

theorem rC_int {k : IntKind} {a b : Int} (h : a = b) : Ending.returned (.int k a) = .returned (.int k b) := by rw [h]
theorem rC_bool {a b : Bool} (h : a = b) : Ending.returned (.bool a) = .returned (.bool b) := by rw [h]
theorem eqC_range (r c : Int) : (r == c) = (decide (c ≤ r) && decide (r ≤ c)) := by rw [Bool.eq_iff_iff]; simp; omega
theorem retC_slot {P : Program} {fn : Func} {R : Ending → World → Prop} {a : Act} {w : World} {d : Nat} {v : Value} (h : fn.results = #[.tmp d]) (hd : a.defers = []) (e : a.eval (.tmp d) = v) (hR : R (.returned v) w) : bodyPost P fn R .ret a w :=
  bodyPost_ret (results_tmp h _ _ _) hd (by rw [show a.tmps.getD d undef = v from e]; exact hR)

namespace B
open Go.Proofs.Ytclblidfamabdaa.C
/-- The ranges as the program has them: two neighbours apart. -/
def rgsP : Nat → List (Int × Int)
  | 4 => [(48, 57), (178, 178), (179, 179), (185, 185), (1776, 1785), (8304, 8304), (8308, 8313), (8320, 8329), (65296, 65305)]
  | 7 => [(35, 37), (162, 165), (176, 176), (177, 177), (1642, 1642), (8240, 8244), (8352, 8399), (65283, 65285)]
  | 8 => [(44, 44), (46, 46), (47, 47), (58, 58), (160, 160), (1548, 1548), (8239, 8239), (8260, 8260), (65292, 65292), (65294, 65294), (65295, 65295), (65306, 65306)]
  | 5 => [(1536, 1541), (1632, 1641), (1643, 1643), (1644, 1644), (1757, 1757)]
  | 6 => [(43, 43), (45, 45), (8314, 8314), (8315, 8315), (8330, 8330), (8331, 8331), (8722, 8722), (65291, 65291), (65293, 65293)]
  | 13 => [(768, 879), (1155, 1161), (1425, 1469), (1471, 1471), (1473, 1473), (1474, 1474), (1476, 1476), (1477, 1477), (1479, 1479), (1552, 1562), (1611, 1631), (1648, 1648), (1750, 1756), (1759, 1764), (1767, 1767), (1768, 1768), (1770, 1773), (8400, 8447), (65024, 65039), (65056, 65071), (917760, 917999)]
  | 16 => [(0, 8), (14, 27), (33, 33), (34, 34), (38, 42), (59, 64), (91, 96), (123, 132), (134, 159), (161, 161), (166, 169), (171, 175), (180, 180), (182, 184), (187, 191), (215, 215), (247, 247), (8203, 8205), (8208, 8231), (8234, 8238), (8245, 8286), (8288, 8293), (8298, 8303), (8316, 8318), (8332, 8334), (8592, 8721), (8723, 11263), (12289, 12292), (12296, 12320), (12336, 12336), (65279, 65279), (65281, 65281), (65282, 65282), (65286, 65290), (65307, 65312), (65339, 65344), (65371, 65381), (65529, 65533)]
  | k => rgs k
/-- Two neighbours made one. -/
def mrg : Nat → List (Int × Int) → List (Int × Int)
  | 0, l => l
  | n + 1, p :: q :: l => if p.1 = p.2 ∧ q.1 = q.2 ∧ q.1 = p.1 + 1 then (p.1, q.2) :: mrg n l else p :: mrg n (q :: l)
  | _, l => l
theorem mrg_in (r : Int) : ∀ n l, inR (mrg n l) r = inR l r := by
  intro n
  induction n with
  | zero => intro l; rfl
  | succ n ih =>
    intro l
    match l with
    | [] => rfl
    | [_] => rfl
    | (a, b) :: (c, d) :: l =>
      unfold mrg
      split
      · rename_i h
        obtain ⟨h1, h2, h3⟩ := h
        simp only at h1 h2 h3
        subst h1 h2 h3
        rw [inR_cons, inR_cons, inR_cons, ih, ← Bool.or_assoc]
        congr 1
        rw [Bool.eq_iff_iff]; simp; omega
      · rw [inR_cons, inR_cons, ih]
theorem mrg_is : ∀ k, k < 17 → mrg 60 (rgsP k) = rgs k := by decide +kernel
theorem rgsP_eq (k : Nat) (hk : k < 17) (r : Int) : inR (rgsP k) r = inR (rgs k) r := by rw [← mrg_in r 60 (rgsP k), mrg_is k hk]
theorem clsV_eq (r : Int) : (if inR (rgsP 1) r = true then some (Value.int .i64 1) else if inR (rgsP 2) r = true then some (Value.int .i64 2) else if inR (rgsP 3) r = true then some (Value.int .i64 3) else if inR (rgsP 4) r = true then some (Value.int .i64 4) else if inR (rgsP 5) r = true then some (Value.int .i64 5) else if inR (rgsP 6) r = true then some (Value.int .i64 6) else if inR (rgsP 7) r = true then some (Value.int .i64 7) else if inR (rgsP 8) r = true then some (Value.int .i64 8) else if inR (rgsP 9) r = true then some (Value.int .i64 9) else if inR (rgsP 10) r = true then some (Value.int .i64 10) else if inR (rgsP 11) r = true then some (Value.int .i64 11) else if inR (rgsP 12) r = true then some (Value.int .i64 12) else if inR (rgsP 13) r = true then some (Value.int .i64 13) else if inR (rgsP 14) r = true then some (Value.int .i64 14) else if inR (rgsP 15) r = true then some (Value.int .i64 15) else if inR (rgsP 16) r = true then some (Value.int .i64 16) else none) = if cls r = 17 then none else some (Value.int .i64 (cls r : Int)) := by
  have e := fun k hk => rgsP_eq k hk r
  rw [e 1 (by omega), e 2 (by omega), e 3 (by omega), e 4 (by omega), e 5 (by omega), e 6 (by omega), e 7 (by omega), e 8 (by omega), e 9 (by omega), e 10 (by omega), e 11 (by omega), e 12 (by omega), e 13 (by omega), e 14 (by omega), e 15 (by omega), e 16 (by omega)]
  by_cases h1 : inR (rgs 1) r = true
  · have hc : cls r = 1 := by unfold cls; simp only [clsF, Nat.reduceSub, h1, if_true, if_false, Bool.false_eq_true]
    rw [hc]; simp [h1]
  by_cases h2 : inR (rgs 2) r = true
  · have hc : cls r = 2 := by unfold cls; simp only [clsF, Nat.reduceSub, h1, h2, if_true, if_false, Bool.false_eq_true]
    rw [hc]; simp [h1, h2]
  by_cases h3 : inR (rgs 3) r = true
  · have hc : cls r = 3 := by unfold cls; simp only [clsF, Nat.reduceSub, h1, h2, h3, if_true, if_false, Bool.false_eq_true]
    rw [hc]; simp [h1, h2, h3]
  by_cases h4 : inR (rgs 4) r = true
  · have hc : cls r = 4 := by unfold cls; simp only [clsF, Nat.reduceSub, h1, h2, h3, h4, if_true, if_false, Bool.false_eq_true]
    rw [hc]; simp [h1, h2, h3, h4]
  by_cases h5 : inR (rgs 5) r = true
  · have hc : cls r = 5 := by unfold cls; simp only [clsF, Nat.reduceSub, h1, h2, h3, h4, h5, if_true, if_false, Bool.false_eq_true]
    rw [hc]; simp [h1, h2, h3, h4, h5]
  by_cases h6 : inR (rgs 6) r = true
  · have hc : cls r = 6 := by unfold cls; simp only [clsF, Nat.reduceSub, h1, h2, h3, h4, h5, h6, if_true, if_false, Bool.false_eq_true]
    rw [hc]; simp [h1, h2, h3, h4, h5, h6]
  by_cases h7 : inR (rgs 7) r = true
  · have hc : cls r = 7 := by unfold cls; simp only [clsF, Nat.reduceSub, h1, h2, h3, h4, h5, h6, h7, if_true, if_false, Bool.false_eq_true]
    rw [hc]; simp [h1, h2, h3, h4, h5, h6, h7]
  by_cases h8 : inR (rgs 8) r = true
  · have hc : cls r = 8 := by unfold cls; simp only [clsF, Nat.reduceSub, h1, h2, h3, h4, h5, h6, h7, h8, if_true, if_false, Bool.false_eq_true]
    rw [hc]; simp [h1, h2, h3, h4, h5, h6, h7, h8]
  by_cases h9 : inR (rgs 9) r = true
  · have hc : cls r = 9 := by unfold cls; simp only [clsF, Nat.reduceSub, h1, h2, h3, h4, h5, h6, h7, h8, h9, if_true, if_false, Bool.false_eq_true]
    rw [hc]; simp [h1, h2, h3, h4, h5, h6, h7, h8, h9]
  by_cases h10 : inR (rgs 10) r = true
  · have hc : cls r = 10 := by unfold cls; simp only [clsF, Nat.reduceSub, h1, h2, h3, h4, h5, h6, h7, h8, h9, h10, if_true, if_false, Bool.false_eq_true]
    rw [hc]; simp [h1, h2, h3, h4, h5, h6, h7, h8, h9, h10]
  by_cases h11 : inR (rgs 11) r = true
  · have hc : cls r = 11 := by unfold cls; simp only [clsF, Nat.reduceSub, h1, h2, h3, h4, h5, h6, h7, h8, h9, h10, h11, if_true, if_false, Bool.false_eq_true]
    rw [hc]; simp [h1, h2, h3, h4, h5, h6, h7, h8, h9, h10, h11]
  by_cases h12 : inR (rgs 12) r = true
  · have hc : cls r = 12 := by unfold cls; simp only [clsF, Nat.reduceSub, h1, h2, h3, h4, h5, h6, h7, h8, h9, h10, h11, h12, if_true, if_false, Bool.false_eq_true]
    rw [hc]; simp [h1, h2, h3, h4, h5, h6, h7, h8, h9, h10, h11, h12]
  by_cases h13 : inR (rgs 13) r = true
  · have hc : cls r = 13 := by unfold cls; simp only [clsF, Nat.reduceSub, h1, h2, h3, h4, h5, h6, h7, h8, h9, h10, h11, h12, h13, if_true, if_false, Bool.false_eq_true]
    rw [hc]; simp [h1, h2, h3, h4, h5, h6, h7, h8, h9, h10, h11, h12, h13]
  by_cases h14 : inR (rgs 14) r = true
  · have hc : cls r = 14 := by unfold cls; simp only [clsF, Nat.reduceSub, h1, h2, h3, h4, h5, h6, h7, h8, h9, h10, h11, h12, h13, h14, if_true, if_false, Bool.false_eq_true]
    rw [hc]; simp [h1, h2, h3, h4, h5, h6, h7, h8, h9, h10, h11, h12, h13, h14]
  by_cases h15 : inR (rgs 15) r = true
  · have hc : cls r = 15 := by unfold cls; simp only [clsF, Nat.reduceSub, h1, h2, h3, h4, h5, h6, h7, h8, h9, h10, h11, h12, h13, h14, h15, if_true, if_false, Bool.false_eq_true]
    rw [hc]; simp [h1, h2, h3, h4, h5, h6, h7, h8, h9, h10, h11, h12, h13, h14, h15]
  by_cases h16 : inR (rgs 16) r = true
  · have hc : cls r = 16 := by unfold cls; simp only [clsF, Nat.reduceSub, h1, h2, h3, h4, h5, h6, h7, h8, h9, h10, h11, h12, h13, h14, h15, h16, if_true, if_false, Bool.false_eq_true]
    rw [hc]; simp [h1, h2, h3, h4, h5, h6, h7, h8, h9, h10, h11, h12, h13, h14, h15, h16]
  have hc : cls r = 17 := by unfold cls; simp only [clsF, Nat.reduceSub, h1, h2, h3, h4, h5, h6, h7, h8, h9, h10, h11, h12, h13, h14, h15, h16, if_true, if_false, Bool.false_eq_true]
  rw [hc]; simp [h1, h2, h3, h4, h5, h6, h7, h8, h9, h10, h11, h12, h13, h14, h15, h16]
end B

theorem in_any (r lo hi : Int) (w : World) : Calls Try.prog 28 #[.int .i32 r, .int .i32 lo, .int .i32 hi] w fun e w' => e = .returned (.bool (decide (lo ≤ r) && decide (r ≤ hi))) ∧ w = w' := by
  obtain ⟨B, hB⟩ : ∃ B, (decide (lo ≤ r) && decide (r ≤ hi)) = B := ⟨_, rfl⟩
  rw [hB]
  have HB := Lib.hid hB
  clear hB
  by_cases h1 : lo ≤ r
  · by_cases h2 : r ≤ hi
    · go_enter Try.func28, Try.ntmps28
      go_wp2
      go_ret
      exact ⟨rC_bool (by rw [← HB.out]; simp [h1, h2]), rfl⟩
    · go_enter Try.func28, Try.ntmps28
      go_wp2
      go_ret
      exact ⟨rC_bool (by rw [← HB.out]; simp; omega), rfl⟩
  · go_enter Try.func28, Try.ntmps28
    go_wp2
    go_ret
    exact ⟨rC_bool (by rw [← HB.out]; simp; omega), rfl⟩
theorem wpl_call {P : Program} {ops : Array Oper} {Q : Exit → Act → World → Prop} {a : Act} {w : World} {rest : List Oper} {o : Oper} (f : FuncId) (args : Array Value) (v : Value) (hw : Region.wanted o (yielded ops a.tmps) = true) (hr : (execOp a.eval o).run P w = .ok (.enter f args) w)
    (hC : Calls P f args w fun e w' => e = .returned v ∧ w = w') (h : wpList P ops Q rest (a.put o.dst v) w) : wpList P ops Q (o :: rest) a w := by
  unfold wpList
  rw [if_pos hw]
  refine .inl ?_
  unfold Oper.wp
  rw [hr]
  refine hC.mono ?_
  rintro e w' ⟨rfl, rfl⟩
  exact h
theorem run_in {ev : Operand → Value} {w : World} {d : Option Tmp} {t : TypeId} {p : String} {af : Array Edge} {g : Option (Nat × Bool)} (x : Operand) (r lo hi : Int) (hc : ∀ v, ev (.const v) = v) (hf : ev (.func 28) = .func (.func 28) #[] #[]) (h : ev x = .int .i32 r) :
    (execOp ev { dst := d, op := .call { callee := .value (.func 28), args := #[x, .const (.int .i32 lo), .const (.int .i32 hi)], argTypes := #[21, 21, 21] }, type := t, pos := p, after := af, guard := g }).run Try.prog w = .ok (.enter 28 #[.int .i32 r, .int .i32 lo, .int .i32 hi]) w := by
  simp [execOp, go_sem, h, hc, hf, resolve, invoke]
theorem tst_in {n : Nat} {r lo hi : Int} {d k id : Nat} {t1 t2 t3 : TypeId} {p1 p2 p3 : String} {f1 f2 f3 : Array Edge} (hk : k + 1 < n) (h0 : 0 < k) (hd : d < n) (hd0 : 0 < d) :
    Tst n r d (decide (lo ≤ r) && decide (r ≤ hi)) (.region id #[
      { dst := some k, op := .move (.tmp 0), type := t1, pos := p1, after := f1, guard := none },
      { dst := some (k + 1), op := .call { callee := .value (.func 28), args := #[.tmp k, .const (.int .i32 lo), .const (.int .i32 hi)], argTypes := #[21, 21, 21] }, type := t2, pos := p2, after := f2, guard := none },
      { dst := some d, op := .assign (.tmp (k + 1)), type := t3, pos := p3, after := f3, guard := none }] false) := by
  intro Q a w ha hK
  refine wp_region_lit ?_
  refine wpl_val _ rfl (run_move _ _ ha.r) ?_
  have h1 := ha.put k (.int .i32 r) h0 (by omega)
  have e1 := ha.at_ k (.int .i32 r) (by omega)
  simp only
  generalize a.put (some k) (.int .i32 r) = a1 at h1 e1 ⊢
  refine wpl_call _ _ (.bool (decide (lo ≤ r) && decide (r ≤ hi))) rfl (run_in _ r lo hi (evc _) rfl e1) (in_any r lo hi w) ?_
  have h2 := h1.put (k + 1) (.bool (decide (lo ≤ r) && decide (r ≤ hi))) (by omega) (by omega)
  have e2 := h1.at_ (k + 1) (.bool (decide (lo ≤ r) && decide (r ≤ hi))) (by omega)
  simp only
  generalize a1.put (some (k + 1)) (.bool (decide (lo ≤ r) && decide (r ≤ hi))) = a2 at h2 e2 ⊢
  refine wpl_val _ rfl (run_assign _ _ e2) ?_
  exact hK _ (h2.put d _ hd0 hd) (h2.at_ d _ hd)

set_option maxRecDepth 1000000 in
theorem class_any (r : Int) (w : World) : Calls Try.prog 12 #[.int .i32 r] w fun e w' => e = .returned (.int .i64 (B.cls r : Int)) ∧ w = w' := by
  go_enter Try.func12, Try.ntmps12
  refine wp_seq (wp_region_lit (wpl_val _ rfl (run_assign _ _ rfl) ?_))
  refine wp_seq (wp_block ?_)
  apply sw_use (n := 279) (r := r) (res := 2)
  · repeat (first | exact sw_skip | apply sw_case | apply tst_or | apply tst_in | apply tst_eq | decide)
  · exact ⟨rfl, rfl, rfl⟩
  · intro u hu a' ha' e
    have hv := B.clsV_eq r
    simp only [B.rgsP, B.rgs, List.drop, C.inR, List.any_cons, List.any_nil, Bool.or_false, Bool.or_assoc] at hv
    simp only [eqC_range] at hu
    rw [hv] at hu
    have hu2 : u = .int .i64 (B.cls r : Int) := by
      split at hu
      · cases hu
      · exact (Option.some.inj hu).symm
    subst hu2
    simp only [Exit.inBlock, Exit.then]
    exact retC_slot (d := 2) rfl ha'.defers e ⟨rfl, rfl⟩
  · intro hu a' ha'
    have hv := B.clsV_eq r
    simp only [B.rgsP, B.rgs, List.drop, C.inR, List.any_cons, List.any_nil, Bool.or_false, Bool.or_assoc] at hv
    simp only [eqC_range] at hu
    rw [hv] at hu
    have hu2 : B.cls r = 17 := by
      split at hu
      · assumption
      · cases hu
    refine wp_seq (wp_region_lit (wpl_val _ rfl (run_assign _ _ rfl) ?_))
    exact wp_ret (retC_slot rfl ha'.defers (ha'.at_ 2 _ (by decide)) ⟨by rw [hu2]; rfl, rfl⟩)
end Go.Proofs.Ytclblidfamabdaa

/- bidi.Mirror. -/
set_option linter.unusedVariables false
set_option linter.unusedSimpArgs false
namespace Go.Proofs.Ytclblidfamabdaa
open Go.RowKit Go.Shelf Go.Lib
attribute [local go_sem] Oper.semAt_some

/-- The text of the pairs; where its runes begin. -/
def mirS : ByteArray := ⟨#[40, 41, 60, 62, 91, 93, 123, 125, 194, 171, 194, 187, 226, 128, 185, 226, 128, 186, 226, 129, 133, 226, 129, 134, 226, 129, 189, 226, 129, 190, 226, 130, 141, 226, 130, 142, 226, 136, 136, 226, 136, 139, 226, 137, 164, 226, 137, 165, 226, 137, 170, 226, 137, 171, 226, 159, 168, 226, 159, 169, 227, 128, 136, 227, 128, 137, 227, 128, 138, 227, 128, 139, 227, 128, 140, 227, 128, 141, 227, 128, 142, 227, 128, 143, 227, 128, 144, 227, 128, 145, 227, 128, 148, 227, 128, 149, 239, 188, 136, 239, 188, 137, 239, 188, 156, 239, 188, 158, 239, 188, 187, 239, 188, 189, 239, 189, 155, 239, 189, 157]⟩
def mirP (k : Nat) : Nat := ([0, 1, 2, 3, 4, 5, 6, 7, 8, 10, 12, 15, 18, 21, 24, 27, 30, 33, 36, 39, 42, 45, 48, 51, 54, 57, 60, 63, 66, 69, 72, 75, 78, 81, 84, 87, 90, 93, 96, 99, 102, 105, 108, 111, 114, 117, 120] : List Nat).getD k 120
def pr (k : Nat) : Nat := (B.prs.getD k 0).toNat
theorem mir_dec : ∀ k : Fin 46, mirP k.1 < mirS.size ∧ Utf8.decode mirS (mirP k.1) = (pr k.1, mirP (k.1 + 1) - mirP k.1) ∧ mirP k.1 < mirP (k.1 + 1) := by decide +kernel
theorem mir_end : ¬ mirP 46 < mirS.size := by decide +kernel
theorem mir_at : ∀ k : Fin 46, B.mir (pr k.1 : Int) = if k.1 % 2 = 1 then (pr (k.1 - 1) : Int) else (pr (k.1 + 1) : Int) := by decide +kernel
theorem mirF_out : ∀ (l : List Int) (r : Int), (∀ x ∈ l, x ≠ r) → B.mirF l r = r
  | [], r, _ => rfl
  | [a], r, _ => rfl
  | a :: b :: l, r, h => by
    unfold B.mirF
    rw [if_neg (fun e => h a (by simp) e.symm), if_neg (fun e => h b (by simp) e.symm)]
    exact mirF_out l r (fun x hx => h x (by simp [hx]))
theorem mir_out (r : Int) (h : ∀ j, j < 46 → (pr j : Int) ≠ r) : B.mir r = r := mirF_out B.prs r (fun x hx => by
  obtain ⟨j, hj, e⟩ := List.mem_iff_getElem.1 hx
  have hl : B.prs.length = 46 := rfl
  have hnn : ∀ k : Fin 46, ((pr k.1 : Nat) : Int) = B.prs.getD k.1 0 := by decide +kernel
  have := h j (by omega)
  rw [hnn ⟨j, by omega⟩] at this
  simp only [] at this
  rw [List.getD_eq_getElem?_getD, List.getElem?_eq_getElem hj, Option.getD_some, e] at this
  exact this)

set_option maxRecDepth 1000000 in
theorem mirror_any (r : Int) (w : World) : Calls Try.prog 14 #[.int .i32 r] w fun e w' => e = .returned (.int .i32 (B.mir r)) ∧ Below w.heap.size w w' := by
  obtain ⟨R, hR⟩ : ∃ x, B.mir r = x := ⟨_, rfl⟩
  rw [hR]
  have HR := Lib.hid hR
  clear hR
  obtain ⟨S, hS⟩ : ∃ S, mirS = S := ⟨_, rfl⟩
  have HD : Hid (∀ k, k < 46 → mirP k < S.size ∧ Utf8.decode S (mirP k) = (pr k, mirP (k + 1) - mirP k) ∧ mirP k < mirP (k + 1)) := Lib.hid (fun k hk => by rw [← hS]; exact mir_dec ⟨k, hk⟩)
  have HE : Hid (¬ mirP 46 < S.size) := Lib.hid (by rw [← hS]; exact mir_end)
  have hlit : (⟨#[40, 41, 60, 62, 91, 93, 123, 125, 194, 171, 194, 187, 226, 128, 185, 226, 128, 186, 226, 129, 133, 226, 129, 134, 226, 129, 189, 226, 129, 190, 226, 130, 141, 226, 130, 142, 226, 136, 136, 226, 136, 139, 226, 137, 164, 226, 137, 165, 226, 137, 170, 226, 137, 171, 226, 159, 168, 226, 159, 169, 227, 128, 136, 227, 128, 137, 227, 128, 138, 227, 128, 139, 227, 128, 140, 227, 128, 141, 227, 128, 142, 227, 128, 143, 227, 128, 144, 227, 128, 145, 227, 128, 148, 227, 128, 149, 239, 188, 136, 239, 188, 137, 239, 188, 156, 239, 188, 158, 239, 188, 187, 239, 188, 189, 239, 189, 155, 239, 189, 157]⟩ : ByteArray) = S := hS
  have h0 : mirP 0 = 0 := rfl
  have HL := Lib.hid hlit
  have H0 := Lib.hid h0
  clear hS hlit h0
  go_enter Try.func14, Try.ntmps14
  go_wp2
  rw [HL.out]
  go_loopw [3, 4, 5] (fun nv lv bv wr => ∃ (k : Nat) (b : Bool) (la : Int), k ≤ 46 ∧ wr = w.iter S (mirP k) ∧ nv = .int .i64 (k : Int) ∧ lv = .int .i32 la ∧ bv = .bool b ∧ (0 < k → la = (pr (k - 1) : Int)) ∧ (b = false → ∀ j, j < k → (pr j : Int) ≠ r) ∧ (b = true → k % 2 = 1 ∧ (pr (k - 1) : Int) = r)) (fun nv _ _ _ => 46 - (RowKit.intOf nv).toNat)
  case atStart => exact ⟨0, false, 0, Nat.zero_le _, by rw [H0.out], rfl, rfl, rfl, fun h => absurd h (Nat.lt_irrefl _), fun _ j h => absurd h (Nat.not_lt_zero _), fun h => by cases h⟩
  case round =>
    obtain ⟨k, b, la, hk, rfl, rfl, rfl, rfl, hla, hno, hyes⟩ := hrel
    by_cases hlt : k < 46
    · obtain ⟨p1, p2, p3⟩ := HD.out k hlt
      have hnx : ∀ ty, (Instr.next (.pointer (some ⟨w.heap.size, 0, none⟩)) true ty).run Try.prog (w.iter S (mirP k)) = _ := fun ty => run_next_any w S (mirP k) ty p1
      rw [p2] at hnx
      have hpp : mirP k + (mirP (k + 1) - mirP k) = mirP (k + 1) := by omega
      have hW : w.iter S (mirP k + (pr k, mirP (k + 1) - mirP k).2) = w.iter S (mirP (k + 1)) := by rw [show (pr k, mirP (k + 1) - mirP k).2 = mirP (k + 1) - mirP k from rfl, hpp]
      rw [hW] at hnx
      have hbel : Below w.heap.size w (w.iter S (mirP (k + 1))) := (Below.refl _ _).alloc (Nat.le_refl _) _
      have HB := Lib.hid hbel
      obtain ⟨x, hx⟩ : ∃ x, pr k = x := ⟨_, rfl⟩
      have HX := Lib.hid hx
      have HY := Lib.hid (And.intro hla (And.intro hno hyes))
      rw [hx] at hnx
      clear p1 p2 p3 hpp hW hbel hx hla hno hyes
      cases b
      · by_cases hxr : (x : Int) = r
        · by_cases hk2 : k % 2 = 1
          · have hk3 : (k : Int) % 2 = 1 := by omega
            have HV : Hid (la = R) := Lib.hid (by
              have := mir_at ⟨k, hlt⟩
              rw [show (⟨k, hlt⟩ : Fin 46).1 = k from rfl, HX.out, if_pos hk2, hxr, HR.out] at this
              rw [HY.out.1 (by omega), this])
            clear hk2
            go_wp2
            go_ret
            exact ⟨rC_int HV.out, HB.out⟩
          · have hk3 : (k : Int) % 2 = 0 := by omega
            have hk4 : ¬ ((k : Int) % 2 = 1) := by omega
            go_wp2
            go_roundw
            case rel => exact ⟨k + 1, true, _, hlt, rfl, by go_num, rfl, rfl, (fun _ => by rw [Nat.add_sub_cancel, HX.out]; exact hxr.symm), (fun h => by cases h), fun _ => ⟨by omega, by rw [Nat.add_sub_cancel, HX.out]; exact hxr⟩⟩
            case measure => simp [RowKit.intOf]; omega
        · have hb : ((x : Int) == r) = false := by simp [hxr]
          have HN := Lib.hid hxr
          clear hxr
          go_wp2
          go_roundw
          case rel => exact ⟨k + 1, false, _, hlt, rfl, by go_num, rfl, rfl, (fun _ => by rw [Nat.add_sub_cancel, HX.out]), fun _ j hj => by
            rcases Nat.lt_or_ge j k with h | h
            · exact HY.out.2.1 rfl j h
            · obtain rfl : j = k := by omega
              rw [HX.out]; exact HN.out, fun h => by cases h⟩
          case measure => simp [RowKit.intOf]; omega
      · have HV : Hid ((x : Int) = R) := Lib.hid (by
          obtain ⟨h1, h2⟩ := HY.out.2.2 rfl
          have := mir_at ⟨k - 1, by omega⟩
          rw [show (⟨k - 1, _⟩ : Fin 46).1 = k - 1 from rfl, if_neg (by omega), h2, HR.out, show k - 1 + 1 = k by omega, HX.out] at this
          exact this.symm)
        go_wp2
        go_ret
        exact ⟨rC_int HV.out, HB.out⟩
    · obtain rfl : k = 46 := by omega
      have hnx : ∀ ty, (Instr.next (.pointer (some ⟨w.heap.size, 0, none⟩)) true ty).run Try.prog (w.iter S (mirP 46)) = _ := fun ty => run_next_end w S (mirP 46) ty HE.out
      have HV : Hid (r = R) := Lib.hid (by
        cases b
        · rw [← HR.out]; exact (mir_out r (hno rfl)).symm
        · have := (hyes rfl).1; omega)
      have hbel : Below w.heap.size w (w.iter S (mirP 46)) := (Below.refl _ _).alloc (Nat.le_refl _) _
      have HB := Lib.hid hbel
      clear hbel hla hno hyes
      go_wp2
      go_ret
      exact ⟨rC_int HV.out, HB.out⟩
end Go.Proofs.Ytclblidfamabdaa

/- strings.Builder: the shelf's contracts, laid at this program. -/
set_option linter.unusedVariables false
namespace Go.Proofs.Ytclblidfamabdaa
open Go.Shelf Go.RowKit
def layB_ren : Go.Shelf.Ren := ⟨fun | 168 => 48 | 169 => 49 | 240 => 72 | 242 => 73 | 276 => 91 | 278 => 92 | n => n, fun | 0 => 0 | 3 => 3 | 4 => 4 | 5 => 5 | 9 => 9 | 20 => 20 | 21 => 21 | 37 => 77 | 46 => 118 | 51 => 116 | 70 => 76 | 72 => 79 | 75 => 81 | 80 => 46 | 127 => 99 | 164 => 114 | n => n, fun | n => n⟩
theorem layWr : Lays.n168 Try.prog layB_ren where
  mixed := by kernel_rfl
  f168 := Try.func48.trans (congrArg some (by kernel_rfl))
  f240 := Try.func72.trans (congrArg some (by kernel_rfl))
  f242 := Try.func73.trans (congrArg some (by kernel_rfl))
  f276 := Try.func91.trans (congrArg some (by kernel_rfl))
  f278 := Try.func92.trans (congrArg some (by kernel_rfl))
  t0 := Try.underlying0
  a0 := Try.isAgg0
  z0 := Try.sizeOf0
  v0 := Try.zeroValue0
  t3 := Try.underlying3
  a3 := Try.isAgg3
  z3 := Try.sizeOf3
  v3 := Try.zeroValue3
  t4 := Try.underlying4
  a4 := Try.isAgg4
  z4 := Try.sizeOf4
  v4 := Try.zeroValue4
  t5 := Try.underlying5
  a5 := Try.isAgg5
  z5 := Try.sizeOf5
  v5 := Try.zeroValue5
  t9 := Try.underlying9
  a9 := Try.isAgg9
  z9 := Try.sizeOf9
  v9 := Try.zeroValue9
  t20 := Try.underlying20
  a20 := Try.isAgg20
  z20 := Try.sizeOf20
  v20 := Try.zeroValue20
  t21 := Try.underlying21
  a21 := Try.isAgg21
  z21 := Try.sizeOf21
  v21 := Try.zeroValue21
  t37 := Try.underlying77
  a37 := Try.isAgg77
  z37 := Try.sizeOf77
  v37 := Try.zeroValue77
  t46 := Try.underlying118
  a46 := Try.isAgg118
  z46 := Try.sizeOf118
  v46 := Try.zeroValue118
  t51 := Try.underlying116
  a51 := Try.isAgg116
  z51 := Try.sizeOf116
  v51 := Try.zeroValue116
  t70 := Try.underlying76
  a70 := Try.isAgg76
  z70 := Try.sizeOf76
  v70 := Try.zeroValue76
  t72 := Try.underlying79
  a72 := Try.isAgg79
  z72 := Try.sizeOf79
  v72 := Try.zeroValue79
  t75 := Try.underlying81
  a75 := Try.isAgg81
  z75 := Try.sizeOf81
  v75 := Try.zeroValue81
  t164 := Try.underlying114
  a164 := Try.isAgg114
  z164 := Try.sizeOf114
  v164 := Try.zeroValue114
theorem layStr : Lays.n169 Try.prog layB_ren where
  mixed := by kernel_rfl
  f169 := Try.func49.trans (congrArg some (by kernel_rfl))
  t0 := Try.underlying0
  a0 := Try.isAgg0
  z0 := Try.sizeOf0
  v0 := Try.zeroValue0
  t3 := Try.underlying3
  a3 := Try.isAgg3
  z3 := Try.sizeOf3
  v3 := Try.zeroValue3
  t9 := Try.underlying9
  a9 := Try.isAgg9
  z9 := Try.sizeOf9
  v9 := Try.zeroValue9
  t37 := Try.underlying77
  a37 := Try.isAgg77
  z37 := Try.sizeOf77
  v37 := Try.zeroValue77
  t70 := Try.underlying76
  a70 := Try.isAgg76
  z70 := Try.sizeOf76
  v70 := Try.zeroValue76
  t72 := Try.underlying79
  a72 := Try.isAgg79
  z72 := Try.sizeOf79
  v72 := Try.zeroValue79
  t127 := Try.underlying99
  a127 := Try.isAgg99
  z127 := Try.sizeOf99
  v127 := Try.zeroValue99
theorem extraB : Builder.Extra Try.prog layB_ren where
  sizeBuilder := by kernel_rfl
  liesBuilder := by kernel_rfl
  t5 := layWr.t5
  a5 := layWr.a5
  z5 := layWr.z5
  v5 := layWr.v5
  infoByte := by kernel_rfl
  cellsByte := by kernel_rfl
  sizeByte := by kernel_rfl
  neB5 := by decide
/-- A builder that holds these bytes. -/
def Bld (B b : Nat) (l : List UInt8) (w : World) : Prop := Lib.IsBuilderF 79 5 B b (Lib.byteCells l) w
theorem writeRune_any (B b : Nat) (l : List UInt8) (r : Int) (hr0 : -2147483648 ≤ r) (hr1 : r ≤ 2147483647) (w : World) (h : Bld B b l w) (hlen : l.length + 4 ≤ 140737488355328) (hB : B ≤ w.heap.size) :
    Calls Try.prog 48 #[.pointer (some ⟨b, 0, none⟩), .int .i32 r] w fun e w' => (∃ v, e = .returned v) ∧ Bld B b (l ++ Lib.encodeRune r) w' ∧ Below B w w' ∧ Lib.OthersKept 5 (some b) w w' := by
  have h1 := Any.Builder_WriteRune_k layWr extraB B b (Lib.byteCells l) r hr0 hr1 w h (by simp [Lib.byteCells]; omega) hB
  refine Calls.mono h1 ?_
  rintro e w' ⟨rfl, h2, h3, h4⟩
  refine ⟨⟨_, rfl⟩, ?_, h3, h4⟩
  have h5 : Lib.BuilderAtF 79 5 B b (.pointer (some ⟨b, 0, none⟩)) (Lib.byteCells (l ++ Lib.encodeRune r)) w' := by
    rw [show Lib.byteCells (l ++ Lib.encodeRune r) = Lib.byteCells l ++ Lib.runeCells r by rw [← Lib.byteCells_encodeRune]; simp [Lib.byteCells]]
    exact h2
  exact .inr h5
theorem bldStr_any (B b : Nat) (l : List UInt8) (w : World) (h : Bld B b l w) (hB : B ≤ w.heap.size) :
    Calls Try.prog 49 #[.pointer (some ⟨b, 0, none⟩)] w fun e w' => e = .returned (.string ⟨l.toArray⟩) ∧ Below B w w' := by
  refine Calls.mono (Any.Builder_String_any_k layStr extraB B b l w h hB) ?_
  rintro e w' ⟨rfl, _, h3, _⟩
  exact ⟨rfl, h3⟩
end Go.Proofs.Ytclblidfamabdaa
