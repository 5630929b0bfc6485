/- What the signs of any bytes are, in plain lists: no program stands here. -/
import Derived.Lib.DecodeN
set_option linter.unusedVariables false
namespace Go.Proofs.Ytclblidfamabdaa.U

/-- The least second byte behind a first one. -/
def lo2 (b0 : Nat) : Nat := if b0 = 224 then 160 else if b0 = 240 then 144 else 128
/-- The greatest one. -/
def hi2 (b0 : Nat) : Nat := if b0 = 237 then 159 else if b0 = 244 then 143 else 191

/-- The rune, and of how many bytes, of a text of n bytes that begins with these (beyond its end: whatever). -/
def decM (n b0 b1 b2 b3 : Nat) : Nat × Nat :=
  if b0 < 128 then (b0, 1)
  else if 194 ≤ b0 ∧ b0 ≤ 223 ∧ 2 ≤ n ∧ 128 ≤ b1 ∧ b1 ≤ 191 then ((b0 - 192) * 64 + (b1 - 128), 2)
  else if 224 ≤ b0 ∧ b0 ≤ 239 ∧ 3 ≤ n ∧ lo2 b0 ≤ b1 ∧ b1 ≤ hi2 b0 ∧ 128 ≤ b2 ∧ b2 ≤ 191 then ((b0 - 224) * 4096 + (b1 - 128) * 64 + (b2 - 128), 3)
  else if 240 ≤ b0 ∧ b0 ≤ 244 ∧ 4 ≤ n ∧ lo2 b0 ≤ b1 ∧ b1 ≤ hi2 b0 ∧ 128 ≤ b2 ∧ b2 ≤ 191 ∧ 128 ≤ b3 ∧ b3 ≤ 191 then
    ((b0 - 240) * 262144 + (b1 - 128) * 4096 + (b2 - 128) * 64 + (b3 - 128), 4)
  else (65533, 1)

theorem lo2_is (b : Nat) : 128 ≤ lo2 b ∧ lo2 b ≤ 160 ∧ (b = 224 → lo2 b = 160) ∧ (b = 240 → lo2 b = 144) ∧ (b ≠ 224 → b ≠ 240 → lo2 b = 128) := by
  unfold lo2
  split
  · omega
  · split <;> omega
theorem hi2_is (b : Nat) : 143 ≤ hi2 b ∧ hi2 b ≤ 191 ∧ (b = 237 → hi2 b = 159) ∧ (b = 244 → hi2 b = 143) ∧ (b ≠ 237 → b ≠ 244 → hi2 b = 191) := by
  unfold hi2
  split
  · omega
  · split <;> omega
theorem pair_eq {a b : Nat} (c : Nat) (h : a = b) : (a, c) = (b, c) := by rw [h]

theorem decN_eq (n b0 b1 b2 b3 : Nat) (h0 : b0 < 256) (h1 : b1 < 256) (h2 : b2 < 256) (h3 : b3 < 256) (hn : 1 ≤ n) : Lib.decodeN n b0 b1 b2 b3 = decM n b0 b1 b2 b3 := by
  have hl2 := lo2_is b0
  have hh2 := hi2_is b0
  unfold Lib.decodeN decM
  generalize lo2 b0 = lo at hl2 ⊢
  generalize hi2 b0 = hi at hh2 ⊢
  by_cases c0 : b0 < 128
  · rw [if_pos c0, if_pos c0]
  rw [if_neg c0, if_neg c0]
  by_cases c1 : b0 / 32 = 6
  · rw [if_neg (c := b0 / 16 = 14 ∧ _) (by omega), if_neg (c := b0 / 8 = 30 ∧ _) (by omega), if_neg (c := 224 ≤ b0 ∧ _) (by omega), if_neg (c := 240 ≤ b0 ∧ _) (by omega)]
    by_cases hc : 194 ≤ b0 ∧ b0 ≤ 223 ∧ 2 ≤ n ∧ 128 ≤ b1 ∧ b1 ≤ 191
    · rw [if_pos hc, if_pos ⟨c1, by omega, by omega⟩, if_pos (by omega)]
      exact pair_eq _ (by omega)
    · rw [if_neg hc]
      by_cases hd : 1 < n ∧ b1 / 64 = 2
      · rw [if_pos ⟨c1, hd⟩, if_neg (by omega)]
      · rw [if_neg (fun h => hd h.2)]
  rw [if_neg (c := b0 / 32 = 6 ∧ _) (fun h => c1 h.1), if_neg (c := 194 ≤ b0 ∧ _) (by omega)]
  by_cases c2 : b0 / 16 = 14
  · rw [if_neg (c := b0 / 8 = 30 ∧ _) (by omega), if_neg (c := 240 ≤ b0 ∧ _) (by omega)]
    by_cases hc : 224 ≤ b0 ∧ b0 ≤ 239 ∧ 3 ≤ n ∧ lo ≤ b1 ∧ b1 ≤ hi ∧ 128 ≤ b2 ∧ b2 ≤ 191
    · rw [if_pos hc]
      rw [if_pos ⟨c2, by omega, by omega⟩, if_pos (by omega)]
      exact pair_eq _ (by omega)
    · rw [if_neg hc]
      by_cases hd : (1 < n ∧ b1 / 64 = 2) ∧ (2 < n ∧ b2 / 64 = 2)
      · rw [if_pos ⟨c2, hd⟩, if_neg]
        intro hv
        refine hc ⟨by omega, by omega, by omega, by omega, by omega, by omega, by omega⟩
      · rw [if_neg (fun h => hd h.2)]
  rw [if_neg (c := b0 / 16 = 14 ∧ _) (fun h => c2 h.1), if_neg (c := 224 ≤ b0 ∧ _) (by omega)]
  by_cases c3 : b0 / 8 = 30
  · by_cases hc : 240 ≤ b0 ∧ b0 ≤ 244 ∧ 4 ≤ n ∧ lo ≤ b1 ∧ b1 ≤ hi ∧ 128 ≤ b2 ∧ b2 ≤ 191 ∧ 128 ≤ b3 ∧ b3 ≤ 191
    · rw [if_pos hc]
      rw [if_pos ⟨c3, by omega, by omega, by omega⟩, if_pos (by omega)]
      exact pair_eq _ (by omega)
    · rw [if_neg hc]
      by_cases hd : (1 < n ∧ b1 / 64 = 2) ∧ (2 < n ∧ b2 / 64 = 2) ∧ (3 < n ∧ b3 / 64 = 2)
      · rw [if_pos ⟨c3, hd⟩, if_neg]
        intro hv
        refine hc ⟨by omega, by omega, by omega, by omega, by omega, by omega, by omega, by omega, by omega⟩
      · rw [if_neg (fun h => hd h.2)]
  · rw [if_neg (fun h => c3 h.1), if_neg (by omega)]

/-- Byte j of a list, 0 behind its end. -/
def by_ (l : List UInt8) (j : Nat) : Nat := (l.getD j 0).toNat
theorem by_lt (l : List UInt8) (j : Nat) : by_ l j < 256 := (l.getD j 0).toNat_lt

def dec (l : List UInt8) : Nat × Nat := decM l.length (by_ l 0) (by_ l 1) (by_ l 2) (by_ l 3)

theorem get!_eq (s : ByteArray) (i : Nat) : s.get! i = s.data.toList.getD i 0 := by
  cases s with
  | mk a =>
    show a[i]! = _
    rw [Array.getElem!_eq_getD, List.getD_eq_getElem?_getD, Array.getElem?_toList, Array.getD_eq_getD_getElem?]
    rfl

theorem size_eq (s : ByteArray) : s.size = s.data.toList.length := by rw [Array.length_toList]; rfl

/-- The model's own, at a place. -/
theorem decode_eq (s : ByteArray) (i : Nat) (h : i < s.size) : Utf8.decode s i = dec (s.data.toList.drop i) := by
  have e : ∀ k, (s.get! (i + k)).toNat = by_ (s.data.toList.drop i) k := fun k => by
    rw [get!_eq]; unfold by_; simp [List.getD_eq_getElem?_getD, List.getElem?_drop]
  rw [Lib.decode_at, show s.get! i = s.get! (i + 0) from rfl, e 0, e 1, e 2, e 3, decN_eq _ _ _ _ _ (by_lt _ _) (by_lt _ _) (by_lt _ _) (by_lt _ _) (by omega)]
  unfold dec
  rw [size_eq, List.length_drop]

theorem decM_facts (n b0 b1 b2 b3 : Nat) (h1 : b1 < 256) (hn : 1 ≤ n) :
    1 ≤ (decM n b0 b1 b2 b3).2 ∧ (decM n b0 b1 b2 b3).2 ≤ 4 ∧ (decM n b0 b1 b2 b3).2 ≤ n ∧ (decM n b0 b1 b2 b3).1 ≤ 1114111 ∧ ((decM n b0 b1 b2 b3).1 < 55296 ∨ 57344 ≤ (decM n b0 b1 b2 b3).1) := by
  have hl2 := lo2_is b0
  have hh2 := hi2_is b0
  unfold decM
  repeat' split
  all_goals (simp only; omega)

theorem dec_facts (l : List UInt8) (h : l ≠ []) : 1 ≤ (dec l).2 ∧ (dec l).2 ≤ 4 ∧ (dec l).2 ≤ l.length ∧ (dec l).1 ≤ 1114111 ∧ ((dec l).1 < 55296 ∨ 57344 ≤ (dec l).1) :=
  decM_facts _ _ _ _ _ (by_lt _ _) (by cases l with | nil => exact absurd rfl h | cons => simp)

/-- A sign's bytes and rune, without its place. -/
abbrev Tk := Nat × Nat

def tokF : Nat → List UInt8 → List Tk
  | 0, _ => []
  | _ + 1, [] => []
  | f + 1, b :: l => dec (b :: l) :: tokF f ((b :: l).drop (dec (b :: l)).2)

def toks (l : List UInt8) : List Tk := tokF l.length l

theorem tokF_more : ∀ (f : Nat) (l : List UInt8), l.length ≤ f → tokF f l = tokF l.length l := by
  intro f
  induction f using Nat.strongRecOn with
  | ind f ih =>
    intro l hl
    cases l with
    | nil => cases f <;> rfl
    | cons b l =>
      cases f with
      | zero => simp at hl
      | succ f =>
        have hd := dec_facts (b :: l) (by simp)
        simp only [List.length_cons, tokF] at hl hd ⊢
        have h1 : ((b :: l).drop (dec (b :: l)).2).length ≤ l.length := by simp only [List.length_drop, List.length_cons]; omega
        rw [ih f (by omega) _ (by omega)]
        by_cases e : f = l.length
        · subst e; rw [ih l.length (by omega) _ h1]
        · rw [ih l.length (by omega) _ h1]

theorem toks_nil : toks [] = [] := rfl
theorem toks_cons (b : UInt8) (l : List UInt8) : toks (b :: l) = dec (b :: l) :: toks ((b :: l).drop (dec (b :: l)).2) := by
  have hd := dec_facts (b :: l) (by simp)
  simp only [List.length_cons] at hd
  show dec (b :: l) :: tokF l.length _ = _
  rw [tokF_more l.length _ (by simp only [List.length_drop, List.length_cons]; omega)]
  rfl
theorem toks_ne (l : List UInt8) (h : l ≠ []) : toks l = dec l :: toks (l.drop (dec l).2) := by
  cases l with
  | nil => exact absurd rfl h
  | cons b l => exact toks_cons b l
theorem toks_eq_nil {l : List UInt8} (h : toks l = []) : l = [] := by
  cases l with
  | nil => rfl
  | cons b l => rw [toks_cons] at h; cases h

/-- Over all ends of a text, one sign less each. -/
theorem toks_ind {p : List UInt8 → Prop} (h0 : p []) (h1 : ∀ l, l ≠ [] → p (l.drop (dec l).2) → p l) : ∀ l, p l := by
  have : ∀ (n : Nat) (l : List UInt8), l.length ≤ n → p l := by
    intro n
    induction n with
    | zero => intro l hl; cases l with | nil => exact h0 | cons => simp at hl
    | succ n ih =>
      intro l hl
      cases l with
      | nil => exact h0
      | cons b l =>
        have hd := dec_facts (b :: l) (by simp)
        exact h1 _ (by simp) (ih _ (by simp only [List.length_drop]; omega))
  exact fun l => this l.length l (Nat.le_refl _)

theorem toks_length_le (l : List UInt8) : (toks l).length ≤ l.length := by
  refine toks_ind (p := fun l => (toks l).length ≤ l.length) (by simp [toks_nil]) (fun l h ih => ?_) l
  have hd := dec_facts l h
  show (toks l).length ≤ l.length
  rw [toks_ne l h, List.length_cons]
  simp only [List.length_drop] at ih
  omega

/-- How many bytes, all together. -/
def wsum (l : List Tk) : Nat := (l.map (·.2)).sum
theorem wsum_toks (l : List UInt8) : wsum (toks l) = l.length := by
  refine toks_ind (p := fun l => wsum (toks l) = l.length) rfl (fun l h ih => ?_) l
  have hd := dec_facts l h
  show wsum (toks l) = l.length
  rw [toks_ne l h]
  simp only [wsum, List.map_cons, List.sum_cons, List.length_drop] at ih ⊢
  omega

/-- A sign as it is told: its place, its bytes, its rune, is it a bad one. -/
structure Sg where
  at_ : Nat
  len : Nat
  rune : Nat
  bad : Bool
  deriving DecidableEq

def isBad (t : Tk) : Bool := t.1 == 65533 && t.2 == 1
def put (a : Nat) : List Tk → List Sg
  | [] => []
  | t :: l => ⟨a, t.2, t.1, isBad t⟩ :: put (a + t.2) l
def signs (l : List UInt8) : List Sg := put 0 (toks l)

theorem put_length (a : Nat) (l : List Tk) : (put a l).length = l.length := by
  induction l generalizing a with
  | nil => rfl
  | cons t l ih => simp [put, ih]
theorem put_append (a : Nat) (l r : List Tk) : put a (l ++ r) = put a l ++ put (a + wsum l) r := by
  induction l generalizing a with
  | nil => simp [put, wsum]
  | cons t l ih => simp [put, ih, wsum, Nat.add_assoc]
theorem toks_fact (l : List UInt8) : ∀ t ∈ toks l, 1 ≤ t.2 ∧ t.2 ≤ 4 ∧ t.1 ≤ 1114111 ∧ (t.1 < 55296 ∨ 57344 ≤ t.1) := by
  refine toks_ind (p := fun l => ∀ t ∈ toks l, 1 ≤ t.2 ∧ t.2 ≤ 4 ∧ t.1 ≤ 1114111 ∧ (t.1 < 55296 ∨ 57344 ≤ t.1)) (by simp [toks_nil]) (fun l h ih => ?_) l
  intro t ht
  have hd := dec_facts l h
  rw [toks_ne l h, List.mem_cons] at ht
  rcases ht with rfl | ht
  · omega
  · exact ih t ht
theorem put_mem {a : Nat} {l : List Tk} {x : Sg} (h : x ∈ put a l) : (x.rune, x.len) ∈ l ∧ x.bad = isBad (x.rune, x.len) := by
  induction l generalizing a with
  | nil => cases h
  | cons t l ih =>
    simp only [put, List.mem_cons] at h
    rcases h with rfl | h
    · exact ⟨List.mem_cons_self, rfl⟩
    · exact ⟨List.mem_cons_of_mem _ (ih h).1, (ih h).2⟩
theorem signs_rune (l : List UInt8) : ∀ x ∈ signs l, x.rune ≤ 1114111 := fun x hx => (toks_fact l _ (put_mem hx).1).2.2.1
theorem signs_length_le (l : List UInt8) : (signs l).length ≤ l.length := by rw [signs, put_length]; exact toks_length_le l

/-- Of how many bytes the encoding is that a byte begins, 0: none. -/
def long (c : Nat) : Nat := if c < 128 then 1 else if 194 ≤ c ∧ c ≤ 223 then 2 else if 224 ≤ c ∧ c ≤ 239 then 3 else if 240 ≤ c ∧ c ≤ 244 then 4 else 0
def snd (c d : Nat) : Bool := decide (lo2 c ≤ d ∧ d ≤ hi2 c)
def cont (d : Nat) : Bool := decide (128 ≤ d ∧ d ≤ 191)

/-- The same, by the first byte's length. -/
theorem decM_long (n b0 b1 b2 b3 : Nat) : decM n b0 b1 b2 b3 =
    if long b0 = 1 then (b0, 1)
    else if long b0 = 0 then (65533, 1)
    else if n < 2 ∨ snd b0 b1 = false then (65533, 1)
    else if long b0 = 2 then ((b0 - 192) * 64 + (b1 - 128), 2)
    else if n < 3 ∨ cont b2 = false then (65533, 1)
    else if long b0 = 3 then ((b0 - 224) * 4096 + (b1 - 128) * 64 + (b2 - 128), 3)
    else if n < 4 ∨ cont b3 = false then (65533, 1)
    else ((b0 - 240) * 262144 + (b1 - 128) * 4096 + (b2 - 128) * 64 + (b3 - 128), 4) := by
  have hl2 := lo2_is b0
  have hh2 := hi2_is b0
  have es : snd b0 b1 = false ↔ ¬ (lo2 b0 ≤ b1 ∧ b1 ≤ hi2 b0) := by unfold snd; exact decide_eq_false_iff_not
  have e2 : cont b2 = false ↔ ¬ (128 ≤ b2 ∧ b2 ≤ 191) := by unfold cont; exact decide_eq_false_iff_not
  have e3 : cont b3 = false ↔ ¬ (128 ≤ b3 ∧ b3 ≤ 191) := by unfold cont; exact decide_eq_false_iff_not
  simp only [es, e2, e3]
  unfold decM
  by_cases c0 : b0 < 128
  · have l1 : long b0 = 1 := by unfold long; rw [if_pos c0]
    rw [if_pos c0, if_pos l1]
  rw [if_neg c0]
  by_cases c1 : 194 ≤ b0 ∧ b0 ≤ 223
  · have l1 : long b0 = 2 := by unfold long; rw [if_neg c0, if_pos c1]
    rw [l1, if_neg (by omega : ¬ (2 : Nat) = 1), if_neg (by omega : ¬ (2 : Nat) = 0), if_pos (rfl : (2 : Nat) = 2)]
    by_cases k : n < 2 ∨ ¬ (lo2 b0 ≤ b1 ∧ b1 ≤ hi2 b0)
    · rw [if_pos k, if_neg (by omega), if_neg (by omega), if_neg (by omega)]
    · rw [if_neg k, if_pos (by omega)]
  by_cases c2 : 224 ≤ b0 ∧ b0 ≤ 239
  · have l1 : long b0 = 3 := by unfold long; rw [if_neg c0, if_neg c1, if_pos c2]
    rw [l1, if_neg (by omega : ¬ (3 : Nat) = 1), if_neg (by omega : ¬ (3 : Nat) = 0), if_neg (by omega : ¬ (3 : Nat) = 2), if_pos (rfl : (3 : Nat) = 3), if_neg (by omega)]
    by_cases k : n < 2 ∨ ¬ (lo2 b0 ≤ b1 ∧ b1 ≤ hi2 b0)
    · rw [if_pos k, if_neg (by omega), if_neg (by omega)]
    rw [if_neg k]
    by_cases k2 : n < 3 ∨ ¬ (128 ≤ b2 ∧ b2 ≤ 191)
    · rw [if_pos k2, if_neg (by omega), if_neg (by omega)]
    · rw [if_neg k2, if_pos (by omega)]
  by_cases c3 : 240 ≤ b0 ∧ b0 ≤ 244
  · have l1 : long b0 = 4 := by unfold long; rw [if_neg c0, if_neg c1, if_neg c2, if_pos c3]
    rw [l1, if_neg (by omega : ¬ (4 : Nat) = 1), if_neg (by omega : ¬ (4 : Nat) = 0), if_neg (by omega : ¬ (4 : Nat) = 2), if_neg (by omega : ¬ (4 : Nat) = 3), if_neg (c := 194 ≤ b0 ∧ _) (by omega), if_neg (c := 224 ≤ b0 ∧ _) (by omega)]
    by_cases k : n < 2 ∨ ¬ (lo2 b0 ≤ b1 ∧ b1 ≤ hi2 b0)
    · rw [if_pos k, if_neg (by omega)]
    rw [if_neg k]
    by_cases k2 : n < 3 ∨ ¬ (128 ≤ b2 ∧ b2 ≤ 191)
    · rw [if_pos k2, if_neg (by omega)]
    rw [if_neg k2]
    by_cases k3 : n < 4 ∨ ¬ (128 ≤ b3 ∧ b3 ≤ 191)
    · rw [if_pos k3, if_neg (by omega)]
    · rw [if_neg k3, if_pos (by omega)]
  · have l1 : long b0 = 0 := by unfold long; rw [if_neg c0, if_neg c1, if_neg c2, if_neg c3]
    rw [l1, if_neg (by omega : ¬ (0 : Nat) = 1), if_pos (rfl : (0 : Nat) = 0), if_neg (by omega), if_neg (by omega), if_neg (by omega)]

/-- Units of UTF-16 of a rune. -/
def un (c : Nat) : Nat := if c < 65536 then 1 else 2
/-- How much of a unit (1: bytes, 2: signs, 3: units of UTF-16) a sign has. -/
def szu (u : Nat) (t : Tk) : Nat := if u = 1 then t.2 else if u = 3 then un t.1 else 1
def usum (u : Nat) (l : List Tk) : Nat := (l.map (szu u)).sum

/-- From one unit to another: how far it comes, in both, to be at a place or beyond. -/
def plc (f t at_ : Nat) : Nat → Nat → List Tk → Nat × Nat
  | h, th, [] => (h, th)
  | h, th, x :: l => if at_ ≤ h then (h, th) else plc f t at_ (h + szu f x) (th + szu t x) l
/-- The place in the other unit, and 0; or 0 and why not: 21 within, 1 no place. -/
def place (f t at_ : Nat) (l : List Tk) : Nat × Nat :=
  if (plc f t at_ 0 0 l).1 = at_ then ((plc f t at_ 0 0 l).2, 0) else if at_ < (plc f t at_ 0 0 l).1 then (0, 21) else (0, 1)

/-- utf8.RuneLen of a rune that has an encoding. -/
def rlen (c : Nat) : Nat := if c < 128 then 1 else if c < 2048 then 2 else if c < 65536 then 3 else 4

theorem decM_rlen (n b0 b1 b2 b3 : Nat) (h1 : b1 < 256) (h : (decM n b0 b1 b2 b3).1 ≠ 65533) : rlen (decM n b0 b1 b2 b3).1 = (decM n b0 b1 b2 b3).2 := by
  have hl2 := lo2_is b0
  have hh2 := hi2_is b0
  revert h
  unfold decM rlen
  by_cases c0 : b0 < 128
  · rw [if_pos c0]
    intro _
    simp only
    rw [if_pos c0]
  rw [if_neg c0]
  by_cases c1 : 194 ≤ b0 ∧ b0 ≤ 223 ∧ 2 ≤ n ∧ 128 ≤ b1 ∧ b1 ≤ 191
  · rw [if_pos c1]
    intro _
    simp only
    rw [if_neg (by omega), if_pos (by omega)]
  rw [if_neg c1]
  by_cases c2 : 224 ≤ b0 ∧ b0 ≤ 239 ∧ 3 ≤ n ∧ lo2 b0 ≤ b1 ∧ b1 ≤ hi2 b0 ∧ 128 ≤ b2 ∧ b2 ≤ 191
  · rw [if_pos c2]
    intro _
    simp only
    rw [if_neg (by omega), if_neg (by omega), if_pos (by omega)]
  rw [if_neg c2]
  by_cases c3 : 240 ≤ b0 ∧ b0 ≤ 244 ∧ 4 ≤ n ∧ lo2 b0 ≤ b1 ∧ b1 ≤ hi2 b0 ∧ 128 ≤ b2 ∧ b2 ≤ 191 ∧ 128 ≤ b3 ∧ b3 ≤ 191
  · rw [if_pos c3]
    intro _
    simp only
    rw [if_neg (by omega), if_neg (by omega), if_neg (by omega)]
  rw [if_neg c3]
  intro h
  exact absurd rfl h
theorem dec_rlen (l : List UInt8) (h : (dec l).1 ≠ 65533) : rlen (dec l).1 = (dec l).2 := decM_rlen _ _ _ _ _ (by_lt _ _) h

theorem decM_bad (n b0 b1 b2 b3 : Nat) (h0 : b0 < 256) (h1 : b1 < 256) (h2 : b2 < 256) (h : (decM n b0 b1 b2 b3).1 = 65533) :
    ((decM n b0 b1 b2 b3).2 = 3 ∧ 3 ≤ n ∧ b0 = 239 ∧ b1 = 191 ∧ b2 = 189) ∨ ((decM n b0 b1 b2 b3).2 = 1 ∧ ¬ (3 ≤ n ∧ b0 = 239 ∧ b1 = 191 ∧ b2 = 189) ∧ 128 ≤ b0) := by
  have hl2 := lo2_is b0
  have hh2 := hi2_is b0
  revert h
  unfold decM
  by_cases c0 : b0 < 128
  · rw [if_pos c0]
    intro h
    replace h : _ = _ := h
    simp only at h ⊢
    omega
  rw [if_neg c0]
  by_cases c1 : 194 ≤ b0 ∧ b0 ≤ 223 ∧ 2 ≤ n ∧ 128 ≤ b1 ∧ b1 ≤ 191
  · rw [if_pos c1]
    intro h
    replace h : _ = _ := h
    simp only at h ⊢
    omega
  rw [if_neg c1]
  by_cases c2 : 224 ≤ b0 ∧ b0 ≤ 239 ∧ 3 ≤ n ∧ lo2 b0 ≤ b1 ∧ b1 ≤ hi2 b0 ∧ 128 ≤ b2 ∧ b2 ≤ 191
  · rw [if_pos c2]
    intro h
    replace h : _ = _ := h
    simp only at h
    have k1 : 128 ≤ b1 ∧ b1 ≤ 191 := by omega
    exact .inl ⟨rfl, by omega, by omega, by omega, by omega⟩
  rw [if_neg c2]
  by_cases c3 : 240 ≤ b0 ∧ b0 ≤ 244 ∧ 4 ≤ n ∧ lo2 b0 ≤ b1 ∧ b1 ≤ hi2 b0 ∧ 128 ≤ b2 ∧ b2 ≤ 191 ∧ 128 ≤ b3 ∧ b3 ≤ 191
  · rw [if_pos c3]
    intro h
    replace h : _ = _ := h
    simp only at h ⊢
    omega
  rw [if_neg c3]
  intro _
  exact .inr ⟨rfl, by omega, by omega⟩

theorem take3 (l : List UInt8) : l.take 3 = [239, 191, 189] ↔ 3 ≤ l.length ∧ by_ l 0 = 239 ∧ by_ l 1 = 191 ∧ by_ l 2 = 189 := by
  have ev : ∀ (b : UInt8) (n : Nat), n < 256 → (b = UInt8.ofNat n ↔ b.toNat = n) := fun b n hn => by
    constructor
    · intro h; rw [h, UInt8.toNat_ofNat']; omega
    · intro h; rw [← UInt8.toNat_inj, h, UInt8.toNat_ofNat']; omega
  rcases l with _ | ⟨a, _ | ⟨b, _ | ⟨c, r⟩⟩⟩
  · simp
  · simp
  · simp
  · have e1 := ev a 239 (by omega)
    have e2 := ev b 191 (by omega)
    have e3 := ev c 189 (by omega)
    simp only [List.take_succ_cons, List.take_zero, List.cons.injEq, and_true, List.length_cons, by_, List.getD_cons_zero, List.getD_cons_succ]
    constructor
    · rintro ⟨h1, h2, h3⟩
      exact ⟨by omega, e1.1 h1, e2.1 h2, e3.1 h3⟩
    · rintro ⟨_, h1, h2, h3⟩
      exact ⟨e1.2 h1, e2.2 h2, e3.2 h3⟩
theorem dec_bad (l : List UInt8) (h : (dec l).1 = 65533) : ((dec l).2 = 3 ∧ l.take 3 = [239, 191, 189]) ∨ ((dec l).2 = 1 ∧ ¬ l.take 3 = [239, 191, 189] ∧ 128 ≤ by_ l 0) := by
  rw [take3]
  rcases decM_bad _ _ _ _ _ (by_lt l 0) (by_lt l 1) (by_lt l 2) h with h | h
  · exact .inl ⟨h.1, h.2⟩
  · exact .inr ⟨h.1, h.2⟩

end Go.Proofs.Ytclblidfamabdaa.U
