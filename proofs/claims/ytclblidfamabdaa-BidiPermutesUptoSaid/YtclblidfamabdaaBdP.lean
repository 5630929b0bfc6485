/- Both directions: classes, rows, levels, orders: plain functions of numbers: no program stands here. -/
import Derived.Test.YtclblidfamabdaaCellP
set_option linter.unusedVariables false
namespace Go.Proofs.Ytclblidfamabdaa.B

/-- The ranges of a class. -/
def rgs : Nat → List (Int × Int)
  | 1 => [(10, 10)]
  | 2 => [(9, 9), (11, 11), (13, 13), (28, 31), (133, 133), (8233, 8233)]
  | 3 => [(12, 12), (32, 32), (5760, 5760), (8192, 8202), (8232, 8232), (8287, 8287), (12288, 12288)]
  | 4 => [(48, 57), (178, 179), (185, 185), (1776, 1785), (8304, 8304), (8308, 8313), (8320, 8329), (65296, 65305)]
  | 5 => [(1536, 1541), (1632, 1641), (1643, 1644), (1757, 1757)]
  | 6 => [(43, 43), (45, 45), (8314, 8315), (8330, 8331), (8722, 8722), (65291, 65291), (65293, 65293)]
  | 7 => [(35, 37), (162, 165), (176, 177), (1642, 1642), (8240, 8244), (8352, 8399), (65283, 65285)]
  | 8 => [(44, 44), (46, 47), (58, 58), (160, 160), (1548, 1548), (8239, 8239), (8260, 8260), (65292, 65292), (65294, 65295), (65306, 65306)]
  | 9 => [(8294, 8294)]
  | 10 => [(8295, 8295)]
  | 11 => [(8296, 8296)]
  | 12 => [(8297, 8297)]
  | 13 => [(768, 879), (1155, 1161), (1425, 1469), (1471, 1471), (1473, 1474), (1476, 1477), (1479, 1479), (1552, 1562), (1611, 1631), (1648, 1648), (1750, 1756), (1759, 1764), (1767, 1768), (1770, 1773), (8400, 8447), (65024, 65039), (65056, 65071), (917760, 917999)]
  | 14 => [(1536, 1983), (2208, 2303), (64336, 65023), (65136, 65278)]
  | 15 => [(1424, 1535), (1984, 2207), (8207, 8207), (64285, 64335), (67584, 69631), (124928, 126975)]
  | 16 => [(0, 8), (14, 27), (33, 34), (38, 42), (59, 64), (91, 96), (123, 132), (134, 159), (161, 161), (166, 169), (171, 175), (180, 180), (182, 184), (187, 191), (215, 215), (247, 247), (8203, 8205), (8208, 8231), (8234, 8238), (8245, 8286), (8288, 8293), (8298, 8303), (8316, 8318), (8332, 8334), (8592, 8721), (8723, 11263), (12289, 12292), (12296, 12320), (12336, 12336), (65279, 65279), (65281, 65282), (65286, 65290), (65307, 65312), (65339, 65344), (65371, 65381), (65529, 65533)]
  | _ => []
/-- The class of a rune, looked for from the last n classes on. -/
def clsF (r : Int) : Nat → Nat
  | 0 => 17
  | n + 1 => if C.inR (rgs (16 - n)) r then 16 - n else clsF r n
def cls (r : Int) : Nat := clsF r 16
theorem clsF_le (r : Int) (n : Nat) (h : n ≤ 16) : 1 ≤ clsF r n ∧ clsF r n ≤ 17 := by
  induction n with
  | zero => unfold clsF; omega
  | succ n ih =>
    have := ih (by omega)
    unfold clsF; split <;> omega
theorem cls_le (r : Int) : 1 ≤ cls r ∧ cls r ≤ 17 := clsF_le r 16 (Nat.le_refl _)
/-- The mirrored pairs. -/
def prs : List Int := [40, 41, 60, 62, 91, 93, 123, 125, 171, 187, 8249, 8250, 8261, 8262, 8317, 8318, 8333, 8334, 8712, 8715, 8804, 8805, 8810, 8811, 10216, 10217, 12296, 12297, 12298, 12299, 12300, 12301, 12302, 12303, 12304, 12305, 12308, 12309, 65288, 65289, 65308, 65310, 65339, 65341, 65371, 65373]
def mirF : List Int → Int → Int
  | a :: b :: l, r => if r = a then b else if r = b then a else mirF l r
  | _, r => r
def mir (r : Int) : Int := mirF prs r

/-- An isolate's begin; that, or its end. -/
def isOp (c : Nat) : Bool := decide (9 ≤ c) && decide (c ≤ 11)
def isIso (c : Nat) : Bool := decide (9 ≤ c) && decide (c ≤ 12)
/-- What rule 8 looks at. -/
def neu (c : Nat) : Bool := decide (c = 1) || decide (c = 2) || decide (c = 3) || decide (c = 16) || isIso c
/-- As a plain one. -/
def nz (c : Nat) : Nat := if isIso c then 16 else c

/-! Isolates matched. c: the classes; e: where the paragraph ends, but ahead of a B. -/
structure M where
  cl : Nat → Nat
  st : Nat → Nat
  h : Nat
  pl : Nat
  ch : Nat → Nat
def set (f : Nat → Nat) (i v : Nat) : Nat → Nat := fun j => if j = i then v else f j
theorem set_at (f : Nat → Nat) (i v : Nat) : set f i v i = v := if_pos rfl
theorem set_ne (f : Nat → Nat) {i j : Nat} (v : Nat) (h : j ≠ i) : set f i v j = f j := if_neg h
def mstep (c : Nat → Nat) (e : Nat) (m : M) (i : Nat) : M :=
  if isOp (c i) then
    if m.h = 60 then { m with pl := m.pl + 1, ch := set m.ch i 16 }
    else { m with cl := set m.cl i e, st := set m.st m.h i, h := m.h + 1 }
  else if c i = 12 then
    if 0 < m.pl then { m with pl := m.pl - 1, ch := set m.ch i 16 }
    else if 0 < m.h then { m with cl := set m.cl (m.st (m.h - 1)) i, h := m.h - 1 }
    else { m with ch := set m.ch i 16 }
  else m
def mrun (c : Nat → Nat) (e : Nat) : Nat → M
  | 0 => ⟨fun _ => 0, fun _ => 0, 0, 0, c⟩
  | i + 1 => mstep c e (mrun c e i) i
/-- The paragraph's end, but ahead of a B. -/
def pend (c : Nat → Nat) (n : Nat) : Nat := if 0 < n ∧ c (n - 1) = 1 then n - 1 else n
def clo (c : Nat → Nat) (n : Nat) : Nat → Nat := (mrun c (pend c n) (pend c n)).cl
def chg (c : Nat → Nat) (n : Nat) : Nat → Nat := (mrun c (pend c n) (pend c n)).ch

structure MOk (c : Nat → Nat) (e i : Nat) (m : M) : Prop where
  h : m.h ≤ 60
  hi : m.h ≤ i
  pl : m.pl ≤ i
  st_lt : ∀ k, k < m.h → m.st k < i
  st_inc : ∀ a b, a < b → b < m.h → m.st a < m.st b
  st_cl : ∀ k, k < m.h → m.cl (m.st k) = e ∧ m.ch (m.st k) = c (m.st k)
  done : ∀ x, m.cl x ≠ 0 → x < i ∧ ((∃ k, k < m.h ∧ m.st k = x) ∨ (x < m.cl x ∧ m.cl x < i))
  op : ∀ x, m.cl x ≠ 0 → isOp (c x) = true ∧ m.ch x = c x
  nest : ∀ x y, x < y → (¬ ∃ k, k < m.h ∧ m.st k = x) → y < m.cl x → (¬ ∃ k, k < m.h ∧ m.st k = y) ∧ m.cl y ≤ m.cl x
  ch : ∀ x, nz (m.ch x) = nz (c x)
  ch_out : ∀ x, i ≤ x → m.ch x = c x
theorem mok (c : Nat → Nat) (e : Nat) (he : 0 < e) : ∀ i, i ≤ e → MOk c e i (mrun c e i) := by
  intro i
  induction i with
  | zero =>
    intro _
    exact ⟨Nat.zero_le _, Nat.zero_le _, Nat.zero_le _, fun k h => absurd h (Nat.not_lt_zero _), fun a b _ h => absurd h (Nat.not_lt_zero _), fun k h => absurd h (Nat.not_lt_zero _), fun x h => absurd rfl h, fun x h => absurd rfl h, fun x y _ _ h => absurd h (Nat.not_lt_zero _), fun _ => rfl, fun _ _ => rfl⟩
  | succ i ih =>
    intro hi
    have m := ih (by omega)
    show MOk c e (i + 1) (mstep c e (mrun c e i) i)
    obtain ⟨q, hq⟩ : ∃ q, mrun c e i = q := ⟨_, rfl⟩
    rw [hq] at m ⊢
    have hci : q.cl i = 0 := by
      rcases Nat.eq_zero_or_pos (q.cl i) with h | h
      · exact h
      · have := (m.done i (by omega)).1; omega
    have chi := m.ch_out i (Nat.le_refl _)
    have plainly : MOk c e (i + 1) q := ⟨m.h, by have := m.hi; omega, by have := m.pl; omega, fun k h => Nat.lt_succ_of_lt (m.st_lt k h), m.st_inc, m.st_cl, fun x h => ⟨Nat.lt_succ_of_lt (m.done x h).1, (m.done x h).2.elim .inl (fun h => .inr ⟨h.1, Nat.lt_succ_of_lt h.2⟩)⟩, m.op, m.nest, m.ch, fun x h => m.ch_out x (by omega)⟩
    have turned : isIso (c i) = true → ∀ p, p ≤ i + 1 → MOk c e (i + 1) { q with pl := p, ch := set q.ch i 16 } := fun ho p hp => by
      have hn : nz 16 = nz (c i) := by rw [show nz 16 = 16 from rfl]; exact (if_pos ho).symm
      refine ⟨plainly.h, plainly.hi, hp, plainly.st_lt, plainly.st_inc, fun k h => ⟨(m.st_cl k h).1, ?_⟩, plainly.done, fun x h => ⟨(m.op x h).1, ?_⟩, plainly.nest, fun x => ?_, fun x h => ?_⟩
      · have := m.st_lt k h
        show set q.ch i 16 (q.st k) = _
        rw [set_ne _ _ (by omega)]; exact (m.st_cl k h).2
      · show set q.ch i 16 x = _
        have := (m.done x h).1
        rw [set_ne _ _ (by omega)]; exact (m.op x h).2
      · show nz (set q.ch i 16 x) = _
        by_cases hx : x = i
        · subst hx; rw [set_at]; exact hn
        · rw [set_ne _ _ hx]; exact m.ch x
      · show set q.ch i 16 x = _
        rw [set_ne _ _ (by omega)]; exact m.ch_out x (by omega)
    unfold mstep
    by_cases ho : isOp (c i) = true
    · rw [if_pos ho]
      have hiso : isIso (c i) = true := by simp [isOp] at ho; simp [isIso]; omega
      by_cases h60 : q.h = 60
      · rw [if_pos h60]; exact turned hiso _ (by have := m.pl; omega)
      · rw [if_neg h60]
        have hh := m.h
        have hst : ∀ k, k < q.h → set q.st q.h i k = q.st k := fun k h => set_ne _ _ (by omega)
        refine ⟨by show q.h + 1 ≤ 60; omega, by show q.h + 1 ≤ i + 1; have := m.hi; omega, by show q.pl ≤ _; have := m.pl; omega, fun k (h : k < q.h + 1) => ?_, fun a b hab (h : b < q.h + 1) => ?_, fun k (h : k < q.h + 1) => ?_, fun x (h : set q.cl i e x ≠ 0) => ?_, fun x (h : set q.cl i e x ≠ 0) => ?_, fun x y hxy hn hy => ?_, m.ch, fun x h => m.ch_out x (by omega)⟩
        · show set q.st q.h i k < i + 1
          by_cases hk : k = q.h
          · subst hk; rw [set_at]; omega
          · rw [set_ne _ _ hk]; have := m.st_lt k (by omega); omega
        · show set q.st q.h i a < set q.st q.h i b
          rw [set_ne _ _ (show a ≠ q.h by omega)]
          by_cases hk : b = q.h
          · subst hk; rw [set_at]; exact m.st_lt a (by omega)
          · rw [set_ne _ _ hk]; exact m.st_inc a b hab (by omega)
        · show set q.cl i e (set q.st q.h i k) = e ∧ q.ch (set q.st q.h i k) = c (set q.st q.h i k)
          by_cases hk : k = q.h
          · subst hk; rw [set_at, set_at]; exact ⟨rfl, chi⟩
          · rw [set_ne _ _ hk]
            have := m.st_lt k (by omega)
            rw [set_ne _ _ (by omega)]
            exact m.st_cl k (by omega)
        · by_cases hx : x = i
          · subst hx
            exact ⟨Nat.lt_succ_self _, .inl ⟨q.h, by show q.h < q.h + 1; omega, set_at _ _ _⟩⟩
          · rw [set_ne _ _ hx] at h
            obtain ⟨h1, h2⟩ := m.done x h
            refine ⟨by omega, h2.elim (fun ⟨k, hk, e⟩ => .inl ⟨k, by show k < q.h + 1; omega, (hst k hk).trans e⟩) (fun h2 => .inr ?_)⟩
            show x < set q.cl i e x ∧ set q.cl i e x < i + 1
            rw [set_ne _ _ hx]; omega
        · by_cases hx : x = i
          · subst hx; exact ⟨ho, chi⟩
          · rw [set_ne _ _ hx] at h
            exact m.op x h
        · have hxi : x ≠ i := fun hx => hn ⟨q.h, by show q.h < q.h + 1; omega, (set_at _ _ _).trans hx.symm⟩
          change y < set q.cl i e x at hy
          show _ ∧ set q.cl i e y ≤ set q.cl i e x
          rw [set_ne _ _ hxi] at hy ⊢
          have hn' : ¬ ∃ k, k < q.h ∧ q.st k = x := fun ⟨k, hk, e⟩ => hn ⟨k, by show k < q.h + 1; omega, (hst k hk).trans e⟩
          have hxd := m.done x (by omega)
          have hyi : y ≠ i := by
            rcases hxd.2 with h | h
            · exact absurd h hn'
            · omega
          obtain ⟨h1, h2⟩ := m.nest x y hxy hn' hy
          refine ⟨fun ⟨k, hk, e⟩ => ?_, by rw [set_ne _ _ hyi]; exact h2⟩
          change k < q.h + 1 at hk
          change set q.st q.h i k = y at e
          by_cases hkh : k = q.h
          · subst hkh; rw [set_at] at e; exact hyi e.symm
          · rw [set_ne _ _ hkh] at e; exact h1 ⟨k, by omega, e⟩
    · rw [if_neg ho]
      by_cases h12 : c i = 12
      · rw [if_pos h12]
        have hiso : isIso (c i) = true := by rw [h12]; rfl
        by_cases hp : 0 < q.pl
        · rw [if_pos hp]; exact turned hiso _ (by have := m.pl; omega)
        · rw [if_neg hp]
          by_cases hh : 0 < q.h
          · rw [if_pos hh]
            obtain ⟨o, hoo⟩ : ∃ o, q.st (q.h - 1) = o := ⟨_, rfl⟩
            rw [hoo]
            have ho1 := m.st_lt (q.h - 1) (by omega)
            have ho2 := m.st_cl (q.h - 1) (by omega)
            rw [hoo] at ho1 ho2
            have hon : ∀ k, k < q.h - 1 → q.st k < o := fun k hk => by have := m.st_inc k (q.h - 1) hk (by omega); omega
            have hoc : q.cl o ≠ 0 := by rw [ho2.1]; omega
            refine ⟨by show q.h - 1 ≤ 60; have := m.h; omega, by show q.h - 1 ≤ _; have := m.hi; omega, by show q.pl ≤ _; have := m.pl; omega, fun k (h : k < q.h - 1) => by show q.st k < _; have := m.st_lt k (by omega); omega, fun a b hab (h : b < q.h - 1) => m.st_inc a b hab (by omega), fun k (h : k < q.h - 1) => ?_, fun x (h : set q.cl o i x ≠ 0) => ?_, fun x (h : set q.cl o i x ≠ 0) => ?_, fun x y hxy hn hy => ?_, m.ch, fun x h => m.ch_out x (by omega)⟩
            · show set q.cl o i (q.st k) = e ∧ _
              have := hon k h
              rw [set_ne _ _ (by omega)]
              exact m.st_cl k (by omega)
            · by_cases hx : x = o
              · subst hx
                refine ⟨by omega, .inr ?_⟩
                show x < set q.cl x i x ∧ set q.cl x i x < i + 1
                rw [set_at]; omega
              · rw [set_ne _ _ hx] at h
                obtain ⟨h1, h2⟩ := m.done x h
                refine ⟨by omega, h2.elim (fun ⟨k, hk, e⟩ => .inl ⟨k, ?_, e⟩) (fun h2 => .inr ?_)⟩
                · show k < q.h - 1
                  by_cases hkk : k = q.h - 1
                  · subst hkk; exact absurd (e.symm.trans hoo) hx
                  · omega
                · show x < set q.cl o i x ∧ set q.cl o i x < i + 1
                  rw [set_ne _ _ hx]; omega
            · by_cases hx : x = o
              · subst hx; exact m.op x hoc
              · rw [set_ne _ _ hx] at h; exact m.op x h
            · change y < set q.cl o i x at hy
              show _ ∧ set q.cl o i y ≤ set q.cl o i x
              by_cases hx : x = o
              · subst hx
                rw [set_at] at hy ⊢
                have hyn : ¬ ∃ k, k < q.h ∧ q.st k = y := fun ⟨k, hk, e⟩ => by
                  by_cases hkk : k = q.h - 1
                  · subst hkk; omega
                  · have := hon k (by omega); omega
                refine ⟨fun ⟨k, hk, e⟩ => hyn ⟨k, by change k < q.h - 1 at hk; omega, e⟩, ?_⟩
                rw [set_ne _ _ (by omega)]
                rcases Nat.eq_zero_or_pos (q.cl y) with h0 | h0
                · omega
                · rcases (m.done y (by omega)).2 with h | h
                  · exact absurd h hyn
                  · omega
              · rw [set_ne _ _ hx] at hy ⊢
                have hn' : ¬ ∃ k, k < q.h ∧ q.st k = x := fun ⟨k, hk, e⟩ => hn ⟨k, by
                  show k < q.h - 1
                  by_cases hkk : k = q.h - 1
                  · subst hkk; exact absurd (e.symm.trans hoo) hx
                  · omega, e⟩
                obtain ⟨h1, h2⟩ := m.nest x y hxy hn' hy
                have hyo : y ≠ o := fun h => h1 ⟨q.h - 1, by omega, hoo.trans h.symm⟩
                exact ⟨fun ⟨k, hk, e⟩ => h1 ⟨k, by change k < q.h - 1 at hk; omega, e⟩, by rw [set_ne _ _ hyo]; exact h2⟩
          · rw [if_neg hh]
            exact turned hiso _ (by have := m.pl; omega)
      · rw [if_neg h12]
        exact plainly

/-- What is known of where isolates close. -/
structure Clo (c cl ch : Nat → Nat) (n : Nat) : Prop where
  lt : ∀ x, cl x ≠ 0 → x < cl x ∧ cl x ≤ n
  nest : ∀ x y, x < y → y < cl x → cl y ≤ cl x
  op : ∀ x, cl x ≠ 0 → isOp (c x) = true ∧ ch x = c x
  ch : ∀ x, nz (ch x) = nz (c x)
theorem clo_ok (c : Nat → Nat) (n : Nat) : Clo c (clo c n) (chg c n) n := by
  unfold clo chg
  have hle : pend c n ≤ n := by unfold pend; split <;> omega
  rcases Nat.eq_zero_or_pos (pend c n) with h | h
  · rw [h]
    exact ⟨fun x h => absurd rfl h, fun x y _ h => absurd h (Nat.not_lt_zero _), fun x h => absurd rfl h, fun _ => rfl⟩
  · have m := mok c (pend c n) h (pend c n) (Nat.le_refl _)
    have hlt : ∀ x, (mrun c (pend c n) (pend c n)).cl x ≠ 0 → x < (mrun c (pend c n) (pend c n)).cl x ∧ (mrun c (pend c n) (pend c n)).cl x ≤ pend c n := fun x hx => by
      obtain ⟨h1, h2⟩ := m.done x hx
      rcases h2 with ⟨k, hk, e⟩ | h2
      · have := (m.st_cl k hk).1
        rw [e] at this
        rw [this]; exact ⟨h1, Nat.le_refl _⟩
      · exact ⟨h2.1, by omega⟩
    refine ⟨fun x hx => ⟨(hlt x hx).1, Nat.le_trans (hlt x hx).2 hle⟩, fun x y hxy hy => ?_, m.op, m.ch⟩
    by_cases hs : ∃ k, k < (mrun c (pend c n) (pend c n)).h ∧ (mrun c (pend c n) (pend c n)).st k = x
    · obtain ⟨k, hk, e⟩ := hs
      have := (m.st_cl k hk).1
      rw [e] at this
      rw [this]
      rcases Nat.eq_zero_or_pos ((mrun c (pend c n) (pend c n)).cl y) with h0 | h0
      · omega
      · exact (hlt y (by omega)).2
    · exact (m.nest x y hxy hs hy).2

/-! A row: its items, one behind the other. -/
def nx (cl : Nat → Nat) (i : Nat) : Nat := if cl i = 0 then i + 1 else cl i
def itm (cl : Nat → Nat) (from_ : Nat) : Nat → Nat
  | 0 => from_
  | n + 1 => nx cl (itm cl from_ n)
def cntF (cl : Nat → Nat) (to : Nat) : Nat → Nat → Nat
  | 0, _ => 0
  | f + 1, i => if i < to then cntF cl to f (nx cl i) + 1 else 0
def cnt (cl : Nat → Nat) (from_ to : Nat) : Nat := cntF cl to (to - from_) from_
/-- The number of the item over a place. -/
def locF (cl : Nat → Nat) (k : Nat) : Nat → Nat → Nat
  | 0, _ => 0
  | f + 1, i => if k < nx cl i then 0 else locF cl k f (nx cl i) + 1
def loc (cl : Nat → Nat) (from_ k : Nat) : Nat := locF cl k (k + 1 - from_) from_
/-- Each closing place lies behind. -/
def Up (cl : Nat → Nat) : Prop := ∀ x, cl x ≠ 0 → x < cl x
theorem nx_lt {cl : Nat → Nat} (h : Up cl) (i : Nat) : i < nx cl i := by
  unfold nx; split
  · omega
  · exact h i ‹_›
theorem cntF_spec {cl : Nat → Nat} (h : Up cl) (to : Nat) : ∀ (f i : Nat), to - i ≤ f → ∀ n, n < cntF cl to f i ↔ itm cl i n < to := by
  intro f
  induction f with
  | zero =>
    intro i hf n
    have hin : ∀ n, i ≤ itm cl i n := fun n => by
      induction n with
      | zero => exact Nat.le_refl _
      | succ n ih => have := nx_lt h (itm cl i n); show i ≤ nx cl (itm cl i n); omega
    have := hin n
    unfold cntF; omega
  | succ f ih =>
    intro i hf n
    unfold cntF
    have hsh : ∀ n, itm cl i (n + 1) = itm cl (nx cl i) n := fun n => by
      induction n with
      | zero => rfl
      | succ n ih => show nx cl (itm cl i (n + 1)) = nx cl (itm cl (nx cl i) n); rw [ih]
    by_cases hi : i < to
    · rw [if_pos hi]
      cases n with
      | zero => show 0 < _ ↔ i < to; omega
      | succ n =>
        rw [hsh]
        have := nx_lt h i
        rw [← ih (nx cl i) (by omega) n]; omega
    · rw [if_neg hi]
      have hin : ∀ n, i ≤ itm cl i n := fun n => by
        induction n with
        | zero => exact Nat.le_refl _
        | succ n ih => have := nx_lt h (itm cl i n); show i ≤ nx cl (itm cl i n); omega
      have := hin n
      omega
theorem cnt_spec {cl : Nat → Nat} (h : Up cl) (from_ to n : Nat) : n < cnt cl from_ to ↔ itm cl from_ n < to := cntF_spec h to _ _ (Nat.le_refl _) n
theorem itm_ge {cl : Nat → Nat} (h : Up cl) (i : Nat) : ∀ n, i + n ≤ itm cl i n := fun n => by
  induction n with
  | zero => exact Nat.le_refl _
  | succ n ih => have := nx_lt h (itm cl i n); show i + (n + 1) ≤ nx cl (itm cl i n); omega
theorem itm_lt {cl : Nat → Nat} (h : Up cl) (i a : Nat) : ∀ b, a < b → itm cl i a < itm cl i b := fun b => by
  induction b with
  | zero => intro h; omega
  | succ b ih =>
    intro hab
    have := nx_lt h (itm cl i b)
    show _ < nx cl (itm cl i b)
    by_cases e : a = b
    · subst e; exact this
    · have := ih (by omega); omega
theorem cnt_le {cl : Nat → Nat} (h : Up cl) (from_ to : Nat) : cnt cl from_ to ≤ to - from_ := by
  rcases Nat.eq_zero_or_pos (cnt cl from_ to) with h0 | h0
  · omega
  · have h1 := (cnt_spec h from_ to (cnt cl from_ to - 1)).1 (by omega)
    have := itm_ge h from_ (cnt cl from_ to - 1)
    omega
theorem locF_spec {cl : Nat → Nat} (h : Up cl) (k : Nat) : ∀ (f i : Nat), i ≤ k → k + 1 - i ≤ f → itm cl i (locF cl k f i) ≤ k ∧ k < itm cl i (locF cl k f i + 1) := by
  intro f
  induction f with
  | zero => intro i h1 h2; omega
  | succ f ih =>
    intro i h1 h2
    have hsh : ∀ n, itm cl i (n + 1) = itm cl (nx cl i) n := fun n => by
      induction n with
      | zero => rfl
      | succ n ih => show nx cl (itm cl i (n + 1)) = nx cl (itm cl (nx cl i) n); rw [ih]
    unfold locF
    have hn := nx_lt h i
    by_cases hk : k < nx cl i
    · rw [if_pos hk]; exact ⟨h1, hk⟩
    · rw [if_neg hk, hsh, hsh]
      exact ih (nx cl i) (by omega) (by omega)
theorem loc_spec {cl : Nat → Nat} (h : Up cl) (from_ k : Nat) (hk : from_ ≤ k) : itm cl from_ (loc cl from_ k) ≤ k ∧ k < itm cl from_ (loc cl from_ k + 1) := locF_spec h k _ _ hk (Nat.le_refl _)
theorem loc_is {cl : Nat → Nat} (h : Up cl) (from_ k n : Nat) (h1 : itm cl from_ n ≤ k) (h2 : k < itm cl from_ (n + 1)) : loc cl from_ k = n := by
  have hf := itm_ge h from_ n
  obtain ⟨h3, h4⟩ := loc_spec h from_ k (by omega)
  rcases Nat.lt_trichotomy (loc cl from_ k) n with hl | hl | hl
  · by_cases e : loc cl from_ k + 1 = n
    · rw [e] at h4; omega
    · have := itm_lt h from_ (loc cl from_ k + 1) n (by omega); omega
  · exact hl
  · by_cases e : n + 1 = loc cl from_ k
    · rw [← e] at h3; omega
    · have := itm_lt h from_ (n + 1) (loc cl from_ k) (by omega); omega

/-! The rules over a row's classes l 0, .., l (m - 1). -/
/-- The nearest one ahead of some classes. -/
def ahd (S : Nat → Bool) (l : Nat → Nat) (side : Nat) : Nat → Nat
  | 0 => side
  | n + 1 => if S (l n) then l n else ahd S l side n
def S3 (c : Nat) : Bool := decide (c = 17) || decide (c = 15) || decide (c = 14)
def S2 (c : Nat) : Bool := decide (c = 17) || decide (c = 15)
def v1 (side : Nat) (l : Nat → Nat) : Nat → Nat
  | 0 => if l 0 = 13 then side else l 0
  | j + 1 => if l (j + 1) = 13 then (if isIso (v1 side l j) then 16 else v1 side l j) else l (j + 1)
def v2 (side : Nat) (l : Nat → Nat) (j : Nat) : Nat := if l j = 4 ∧ ahd S3 l side j = 14 then 5 else l j
def v3 (l : Nat → Nat) (j : Nat) : Nat := if l j = 14 then 15 else l j
def v4 (m : Nat) (l : Nat → Nat) : Nat → Nat
  | 0 => l 0
  | j + 1 => if j + 2 < m ∧ v4 m l j = l (j + 2) ∧ (l (j + 1) = 6 ∧ v4 m l j = 4 ∨ l (j + 1) = 8 ∧ (v4 m l j = 4 ∨ v4 m l j = 5)) then v4 m l j else l (j + 1)
/-- Where the stretch over a place begins, where one ends that reaches to there. -/
def lft (p : Nat → Bool) (l : Nat → Nat) : Nat → Nat
  | 0 => 0
  | j + 1 => if p (l j) then lft p l j else j + 1
def rgtF (p : Nat → Bool) (l : Nat → Nat) (m : Nat) : Nat → Nat → Nat
  | 0, j => j
  | f + 1, j => if j < m ∧ p (l j) = true then rgtF p l m f (j + 1) else j
def rgt (p : Nat → Bool) (l : Nat → Nat) (m j : Nat) : Nat := rgtF p l m (m - j) j
def isET (c : Nat) : Bool := decide (c = 7)
def F5 (m : Nat) (l : Nat → Nat) (i j : Nat) : Nat := if (0 < i ∧ l (i - 1) = 4) ∨ (j < m ∧ l j = 4) then 4 else 7
/-- A value over each longest stretch. -/
def ov (p : Nat → Bool) (F : Nat → Nat → Nat) (m : Nat) (l : Nat → Nat) (j : Nat) : Nat := if p (l j) then F (lft p l j) (rgt p l m j) else l j
def v5 (m : Nat) (l : Nat → Nat) : Nat → Nat := ov isET (F5 m l) m l
def v6 (l : Nat → Nat) (j : Nat) : Nat := if l j = 6 ∨ l j = 7 ∨ l j = 8 then 16 else l j
def v7 (side : Nat) (l : Nat → Nat) (j : Nat) : Nat := if l j = 4 ∧ ahd S2 l side j = 17 then 17 else l j
def F8 (side m : Nat) (l : Nat → Nat) (i j : Nat) : Nat :=
  if (if 0 < i then l (i - 1) else side) = 17 ∧ (if j < m then l j else side) = 17 then 17
  else if (if 0 < i then l (i - 1) else side) ≠ 17 ∧ (if j < m then l j else side) ≠ 17 then 15 else side
def v8 (side m : Nat) (l : Nat → Nat) : Nat → Nat := ov neu (F8 side m l) m l
def wk (side m : Nat) (l : Nat → Nat) : Nat → Nat := v7 side (v6 (v5 m (v4 m (v3 (v2 side (v1 side l))))))
def res (side m : Nat) (l : Nat → Nat) : Nat → Nat := v8 side m (wk side m l)

theorem rgtF_spec (p : Nat → Bool) (l : Nat → Nat) (m : Nat) : ∀ (f j : Nat), m - j ≤ f → j ≤ m → j ≤ rgtF p l m f j ∧ rgtF p l m f j ≤ m ∧ (∀ k, j ≤ k → k < rgtF p l m f j → p (l k) = true) ∧ (rgtF p l m f j < m → p (l (rgtF p l m f j)) = false) := by
  intro f
  induction f with
  | zero => intro j h1 h2; unfold rgtF; exact ⟨Nat.le_refl _, h2, fun k h1 h2 => by omega, fun h => by omega⟩
  | succ f ih =>
    intro j h1 h2
    unfold rgtF
    by_cases hc : j < m ∧ p (l j) = true
    · rw [if_pos hc]
      obtain ⟨i1, i2, i3, i4⟩ := ih (j + 1) (by omega) (by omega)
      exact ⟨by omega, i2, fun k hk h => by
        by_cases e : k = j
        · subst e; exact hc.2
        · exact i3 k (by omega) h, i4⟩
    · rw [if_neg hc]
      exact ⟨Nat.le_refl _, h2, fun k h1 h2 => by omega, fun h => by
        cases hp : p (l j) with
        | false => rfl
        | true => exact absurd ⟨h, hp⟩ hc⟩
theorem rgt_spec (p : Nat → Bool) (l : Nat → Nat) (m j : Nat) (h : j ≤ m) : j ≤ rgt p l m j ∧ rgt p l m j ≤ m ∧ (∀ k, j ≤ k → k < rgt p l m j → p (l k) = true) ∧ (rgt p l m j < m → p (l (rgt p l m j)) = false) := rgtF_spec p l m _ _ (Nat.le_refl _) h
theorem rgt_is (p : Nat → Bool) (l : Nat → Nat) (m j q : Nat) (h1 : j ≤ q) (h2 : q ≤ m) (h3 : ∀ k, j ≤ k → k < q → p (l k) = true) (h4 : q < m → p (l q) = false) : rgt p l m j = q := by
  obtain ⟨i1, i2, i3, i4⟩ := rgt_spec p l m j (by omega)
  rcases Nat.lt_trichotomy (rgt p l m j) q with h | h | h
  · have := i4 (by omega); rw [h3 _ i1 h] at this; cases this
  · exact h
  · have := i3 q h1 h; rw [h4 (by omega)] at this; cases this
theorem lft_le (p : Nat → Bool) (l : Nat → Nat) : ∀ j, lft p l j ≤ j := by
  intro j
  induction j with
  | zero => exact Nat.le_refl _
  | succ j ih => unfold lft; split <;> omega
theorem lft_is (p : Nat → Bool) (l : Nat → Nat) (i : Nat) (hi : i = 0 ∨ p (l (i - 1)) = false) : ∀ d, (∀ k, i ≤ k → k < i + d → p (l k) = true) → lft p l (i + d) = i := by
  intro d
  induction d with
  | zero =>
    intro _
    rcases hi with rfl | hi
    · rfl
    · cases i with
      | zero => rfl
      | succ i => show lft p l (i + 1) = i + 1; unfold lft; rw [if_neg (by simpa using hi)]
  | succ d ih =>
    intro h
    show lft p l (i + d + 1) = i
    unfold lft
    rw [if_pos (h (i + d) (by omega) (by omega))]
    exact ih (fun k h1 h2 => h k h1 (by omega))
/-- Over a stretch, each place has one value. -/
theorem ov_in (p : Nat → Bool) (F : Nat → Nat → Nat) (m : Nat) (l : Nat → Nat) (i j k : Nat) (hi : i = 0 ∨ p (l (i - 1)) = false) (hj : rgt p l m i = j) (hm : i ≤ m) (h1 : i ≤ k) (h2 : k < j) : ov p F m l k = F i j := by
  obtain ⟨i1, i2, i3, i4⟩ := rgt_spec p l m i hm
  rw [hj] at i1 i2 i3 i4
  unfold ov
  rw [if_pos (i3 k h1 h2)]
  have e1 : lft p l k = i := by
    have := lft_is p l i hi (k - i) (fun q h3 h4 => i3 q h3 (by omega))
    rwa [show i + (k - i) = k by omega] at this
  have e2 : rgt p l m k = j := rgt_is p l m k j (by omega) i2 (fun q h3 h4 => i3 q (by omega) h4) i4
  rw [e1, e2]

/-! What is plain or not makes no difference. -/
theorem nz_iso (c : Nat) (h : isIso c = true) : nz c = 16 := if_pos h
theorem nz_not (c : Nat) (h : isIso c = false) : nz c = c := if_neg (by simp [h])
theorem nz_eq (c d : Nat) (hd : isIso d = false) (h16 : d ≠ 16) : nz c = d ↔ c = d := by
  cases h : isIso c with
  | false => rw [nz_not c h]
  | true =>
    rw [nz_iso c h]
    exact ⟨fun e => absurd e.symm h16, fun e => by subst e; rw [h] at hd; cases hd⟩
theorem nz_nz (c : Nat) : nz (nz c) = nz c := by
  cases h : isIso c with
  | false => rw [nz_not c h, nz_not c h]
  | true => rw [nz_iso c h]; rfl
def nzF (l : Nat → Nat) : Nat → Nat := fun j => nz (l j)
theorem ahd_nz (S : Nat → Bool) (hS : ∀ c, S c = true → isIso c = false ∧ c ≠ 16) (hS2 : S 16 = false) (l : Nat → Nat) (side : Nat) : ∀ n, ahd S (nzF l) side n = ahd S l side n := by
  intro n
  induction n with
  | zero => rfl
  | succ n ih =>
    unfold ahd
    cases h : isIso (l n) with
    | false => rw [show nzF l n = l n from nz_not _ h, ih]
    | true =>
      have h1 : S (l n) = false := by
        cases hs : S (l n) with
        | false => rfl
        | true => have := (hS _ hs).1; rw [h] at this; cases this
      rw [show nzF l n = 16 from nz_iso _ h, if_neg (by simp [hS2]), if_neg (by simp [h1]), ih]
theorem S3_ok : ∀ c, S3 c = true → isIso c = false ∧ c ≠ 16 := by
  intro c h
  simp only [S3, Bool.or_eq_true, decide_eq_true_eq] at h
  rcases h with (h | h) | h <;> subst h <;> exact ⟨rfl, by decide⟩
theorem S2_ok : ∀ c, S2 c = true → isIso c = false ∧ c ≠ 16 := by
  intro c h
  simp only [S2, Bool.or_eq_true, decide_eq_true_eq] at h
  rcases h with h | h <;> subst h <;> exact ⟨rfl, by decide⟩
theorem v1_nz (side : Nat) (hs : isIso side = false) (l : Nat → Nat) : v1 side (nzF l) = nzF (v1 side l) := by
  funext j
  show _ = nz (v1 side l j)
  induction j with
  | zero =>
    show (if nz (l 0) = 13 then side else nz (l 0)) = nz (if l 0 = 13 then side else l 0)
    have := nz_eq (l 0) 13 rfl (by decide)
    by_cases h : l 0 = 13
    · rw [if_pos (this.2 h), if_pos h, nz_not _ hs]
    · rw [if_neg (fun e => h (this.1 e)), if_neg h]
  | succ j ih =>
    show (if nz (l (j + 1)) = 13 then (if isIso (v1 side (nzF l) j) then 16 else v1 side (nzF l) j) else nz (l (j + 1))) = nz (if l (j + 1) = 13 then (if isIso (v1 side l j) then 16 else v1 side l j) else l (j + 1))
    have := nz_eq (l (j + 1)) 13 rfl (by decide)
    by_cases h : l (j + 1) = 13
    · rw [if_pos (this.2 h), if_pos h, ih]
      cases hq : isIso (v1 side l j) with
      | true => rw [nz_iso _ hq, if_neg (by decide), if_pos rfl]; rfl
      | false => rw [nz_not _ hq, hq, if_neg (by simp)]; exact (nz_not _ hq).symm
    · rw [if_neg (fun e => h (this.1 e)), if_neg h]
theorem v2_nz (side : Nat) (l : Nat → Nat) : v2 side (nzF l) = nzF (v2 side l) := by
  funext j
  show (if nz (l j) = 4 ∧ _ then 5 else nz (l j)) = nz (v2 side l j)
  rw [ahd_nz S3 S3_ok rfl]
  unfold v2
  simp only [nz_eq (l j) 4 rfl (by decide)]
  by_cases h : l j = 4 ∧ ahd S3 l side j = 14
  · rw [if_pos h, if_pos h]; rfl
  · rw [if_neg h, if_neg h]
theorem v3_nz (l : Nat → Nat) : v3 (nzF l) = nzF (v3 l) := by
  funext j
  show (if nz (l j) = 14 then 15 else nz (l j)) = nz (v3 l j)
  unfold v3
  simp only [nz_eq (l j) 14 rfl (by decide)]
  by_cases h : l j = 14
  · rw [if_pos h, if_pos h]; rfl
  · rw [if_neg h, if_neg h]
theorem v4_nz (m : Nat) (l : Nat → Nat) : v4 m (nzF l) = nzF (v4 m l) := by
  funext j
  show _ = nz (v4 m l j)
  induction j with
  | zero => rfl
  | succ j ih =>
    unfold v4
    rw [ih]
    show (if j + 2 < m ∧ nz (v4 m l j) = nz (l (j + 2)) ∧ (nz (l (j + 1)) = 6 ∧ nz (v4 m l j) = 4 ∨ nz (l (j + 1)) = 8 ∧ (nz (v4 m l j) = 4 ∨ nz (v4 m l j) = 5)) then nz (v4 m l j) else nz (l (j + 1))) = _
    simp only [nz_eq (l (j + 1)) 6 rfl (by decide), nz_eq (l (j + 1)) 8 rfl (by decide), nz_eq (v4 m l j) 4 rfl (by decide), nz_eq (v4 m l j) 5 rfl (by decide)]
    have key : (j + 2 < m ∧ nz (v4 m l j) = nz (l (j + 2)) ∧ (l (j + 1) = 6 ∧ v4 m l j = 4 ∨ l (j + 1) = 8 ∧ (v4 m l j = 4 ∨ v4 m l j = 5))) ↔ (j + 2 < m ∧ v4 m l j = l (j + 2) ∧ (l (j + 1) = 6 ∧ v4 m l j = 4 ∨ l (j + 1) = 8 ∧ (v4 m l j = 4 ∨ v4 m l j = 5))) := by
      have h4 := nz_eq (l (j + 2)) 4 rfl (by decide)
      have h5 := nz_eq (l (j + 2)) 5 rfl (by decide)
      constructor
      · rintro ⟨h1, h2, h3⟩
        refine ⟨h1, ?_, h3⟩
        have : v4 m l j = 4 ∨ v4 m l j = 5 := by omega
        rcases this with e | e
        · rw [e] at h2 ⊢; exact (h4.1 h2.symm).symm
        · rw [e] at h2 ⊢; exact (h5.1 h2.symm).symm
      · rintro ⟨h1, h2, h3⟩
        exact ⟨h1, by rw [h2], h3⟩
    by_cases h : j + 2 < m ∧ v4 m l j = l (j + 2) ∧ (l (j + 1) = 6 ∧ v4 m l j = 4 ∨ l (j + 1) = 8 ∧ (v4 m l j = 4 ∨ v4 m l j = 5))
    · rw [if_pos (key.2 h), if_pos h]
    · rw [if_neg (fun e => h (key.1 e)), if_neg h]
theorem lft_nz (p : Nat → Bool) (hp : ∀ c, p (nz c) = p c) (l : Nat → Nat) : ∀ j, lft p (nzF l) j = lft p l j := by
  intro j
  induction j with
  | zero => rfl
  | succ j ih => unfold lft; rw [show p (nzF l j) = p (l j) from hp _, ih]
theorem rgt_nz (p : Nat → Bool) (hp : ∀ c, p (nz c) = p c) (l : Nat → Nat) (m j : Nat) : rgt p (nzF l) m j = rgt p l m j := by
  unfold rgt
  obtain ⟨f, hf⟩ : ∃ f, m - j = f := ⟨_, rfl⟩
  rw [hf]
  clear hf
  induction f generalizing j with
  | zero => rfl
  | succ f ih => unfold rgtF; rw [show p (nzF l j) = p (l j) from hp _, ih]
theorem isET_nz (c : Nat) : isET (nz c) = isET c := by
  unfold isET
  rw [Bool.eq_iff_iff, decide_eq_true_eq, decide_eq_true_eq]
  exact nz_eq c 7 rfl (by decide)
theorem neu_nz (c : Nat) : neu (nz c) = neu c := by
  cases h : isIso c with
  | false => rw [nz_not c h]
  | true => rw [nz_iso c h]; unfold neu; rw [h]; simp
theorem v5_nz (m : Nat) (l : Nat → Nat) : v5 m (nzF l) = nzF (v5 m l) := by
  funext j
  show ov isET _ m _ j = nz (ov isET _ m l j)
  unfold ov
  rw [show isET (nzF l j) = isET (l j) from isET_nz _, lft_nz _ isET_nz, rgt_nz _ isET_nz]
  by_cases h : isET (l j) = true
  · rw [if_pos h, if_pos h]
    unfold F5
    show (if (0 < _ ∧ nz (l _) = 4) ∨ (_ < m ∧ nz (l _) = 4) then 4 else 7) = _
    simp only [nz_eq _ 4 rfl (by decide)]
    split <;> rfl
  · rw [if_neg h, if_neg h]; rfl
theorem v6_nz (l : Nat → Nat) : v6 (nzF l) = nzF (v6 l) := by
  funext j
  show (if nz (l j) = 6 ∨ nz (l j) = 7 ∨ nz (l j) = 8 then 16 else nz (l j)) = nz (v6 l j)
  unfold v6
  simp only [nz_eq _ 6 rfl (by decide), nz_eq _ 7 rfl (by decide), nz_eq _ 8 rfl (by decide)]
  split
  · rfl
  · rfl
theorem v7_nz (side : Nat) (l : Nat → Nat) : v7 side (nzF l) = nzF (v7 side l) := by
  funext j
  show (if nz (l j) = 4 ∧ _ then 17 else nz (l j)) = nz (v7 side l j)
  rw [ahd_nz S2 S2_ok rfl]
  unfold v7
  simp only [nz_eq _ 4 rfl (by decide)]
  split <;> rfl
theorem wk_nz (side m : Nat) (hs : isIso side = false) (l : Nat → Nat) : wk side m (nzF l) = nzF (wk side m l) := by
  unfold wk
  rw [v1_nz side hs, v2_nz, v3_nz, v4_nz, v5_nz, v6_nz, v7_nz]
theorem v8_nz (side m : Nat) (l : Nat → Nat) (j : Nat) (h : isIso (l j) = false → True) : v8 side m (nzF l) j = v8 side m l j := by
  show ov neu _ m _ j = ov neu _ m l j
  unfold ov
  rw [show neu (nzF l j) = neu (l j) from neu_nz _, lft_nz _ neu_nz, rgt_nz _ neu_nz]
  have e17 : ∀ a, (nz a = 17) = (a = 17) := fun a => propext (nz_eq a 17 rfl (by decide))
  have eif : ∀ (P : Prop) [Decidable P] (a : Nat), ((if P then nz a else side) = 17) = ((if P then a else side) = 17) := fun P _ a => by
    by_cases hP : P
    · rw [if_pos hP, if_pos hP, e17]
    · rw [if_neg hP, if_neg hP]
  by_cases hn : neu (l j) = true
  · rw [if_pos hn, if_pos hn]
    unfold F8
    show (if (if 0 < _ then nz (l _) else side) = 17 ∧ (if _ < m then nz (l _) else side) = 17 then 17 else if (if 0 < _ then nz (l _) else side) ≠ 17 ∧ (if _ < m then nz (l _) else side) ≠ 17 then 15 else side) = _
    simp only [ne_eq, eif]
  · rw [if_neg hn, if_neg hn]
    have : isIso (l j) = false := by
      cases hi : isIso (l j) with
      | false => rfl
      | true => exact absurd (by unfold neu; rw [hi]; simp) hn
    exact nz_not _ this
theorem res_nz (side m : Nat) (hs : isIso side = false) (a b : Nat → Nat) (h : nzF a = nzF b) : res side m a = res side m b := by
  funext j
  unfold res
  rw [← v8_nz side m (wk side m a) j (fun _ => trivial), ← v8_nz side m (wk side m b) j (fun _ => trivial), ← wk_nz side m hs, ← wk_nz side m hs, h]

/-- The side of a level. -/
def sid (e : Nat) : Nat := if e % 2 = 1 then 15 else 17
/-- The level of a class in a row at a level. -/
def lvl (e c : Nat) : Nat := if e % 2 = 1 then (if c = 15 then e else e + 1) else (if c = 15 then e + 1 else if c = 17 then e else e + 2)
/-- Of a row, by classes: the first L, R or AL: 17, 15, 14; 0: there is none. -/
def stgF (c : Nat → Nat) (it : Nat → Nat) : Nat → Nat → Nat
  | 0, _ => 0
  | f + 1, n => if S3 (c (it n)) then c (it n) else stgF c it f (n + 1)
def stg (c cl : Nat → Nat) (from_ to : Nat) : Nat := stgF c (itm cl from_) (cnt cl from_ to) 0
/-- Is what stands in an isolate from right to left? -/
def odd (c cl : Nat → Nat) (i : Nat) : Bool := if c i = 11 then decide (stg c cl (i + 1) (cl i) = 15 ∨ stg c cl (i + 1) (cl i) = 14) else decide (c i = 10)
def inn (c cl : Nat → Nat) (e i : Nat) : Nat := if (decide ((e + 1) % 2 = 1)) = odd c cl i then e + 1 else e + 2
/-- The level of a place of a row. -/
def lev (c cl : Nat → Nat) : Nat → Nat → Nat → Nat → Nat → Nat
  | 0, _, _, e, _ => e
  | f + 1, from_, to, e, k =>
    if itm cl from_ (loc cl from_ k) = k then lvl e (res (sid e) (cnt cl from_ to) (fun n => c (itm cl from_ n)) (loc cl from_ k))
    else lev c cl f (itm cl from_ (loc cl from_ k) + 1) (cl (itm cl from_ (loc cl from_ k))) (inn c cl e (itm cl from_ (loc cl from_ k))) k
/-- Rule 9: from the end. -/
def rimF (c : Nat → Nat) (m : Nat) : Nat → Bool
  | 0 => true
  | d + 1 => if c (m - 1 - d) = 1 ∨ c (m - 1 - d) = 2 then true else if c (m - 1 - d) = 3 ∨ isIso (c (m - 1 - d)) = true then rimF c m d else false
def plev (base : Nat) (c : Nat → Nat) (m k : Nat) : Nat :=
  if c k = 1 ∨ c k = 2 then base else if (c k = 3 ∨ isIso (c k) = true) ∧ rimF c m (m - 1 - k) = true then base else lev c (clo c m) m 0 m base k
/-- Where the paragraph over a place begins; where one ends that begins at a place. -/
def pbeg (c : Nat → Nat) : Nat → Nat
  | 0 => 0
  | k + 1 => if c k = 1 then k + 1 else pbeg c k
def pendF (c : Nat → Nat) (n : Nat) : Nat → Nat → Nat
  | 0, i => i
  | f + 1, i => if i < n then (if c i = 1 then i + 1 else pendF c n f (i + 1)) else i
def pfin (c : Nat → Nat) (n i : Nat) : Nat := pendF c n (n - i) i
def lvAll (base : Nat) (c : Nat → Nat) (n k : Nat) : Nat := plev base (fun j => c (pbeg c k + j)) (pfin c n (pbeg c k) - pbeg c k) (k - pbeg c k)

/-- One turn of the order: stretches at a level or above are turned round. -/
def trn (lv : Nat → Nat) (e m : Nat) (o : Nat → Nat) (k : Nat) : Nat :=
  if e ≤ lv (o k) then o (lft (fun x => decide (e ≤ lv x)) o k + rgt (fun x => decide (e ≤ lv x)) o m k - 1 - k) else o k
def ordF (lv : Nat → Nat) (m : Nat) : Nat → (Nat → Nat) → Nat → Nat
  | 0, o => o
  | e + 1, o => ordF lv m e (trn lv (e + 1) m o)
def most (lv : Nat → Nat) : Nat → Nat
  | 0 => 0
  | n + 1 => max (most lv n) (lv n)
def ord (lv : Nat → Nat) (m : Nat) : Nat → Nat := ordF lv m (most lv m) id
end Go.Proofs.Ytclblidfamabdaa.B
