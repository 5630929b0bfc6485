/- The document's front of a sign. -/
import Derived.Test.YtokbmihjpllgpaaDoorByt
import Derived.Deep.QuietTactic
import Derived.BigQuiet
import Derived.Handy
set_option linter.unusedVariables false
set_option linter.unusedSimpArgs false
namespace Go.Proofs.YtokbmihjpllgpaaDoor
open Go.RowKit Go.Shelf Go.Lib Go.BigFrame
attribute [local go_sem] Oper.semAt_some

theorem rF_int {k : IntKind} {a b : Int} (h : a = b) : Ending.returned (.int k a) = .returned (.int k b) := by rw [h]
theorem rF_bool {a b : Bool} (h : a = b) : Ending.returned (.bool a) = .returned (.bool b) := by rw [h]
set_option maxRecDepth 1000000 in
theorem longF_any (c : Nat) (w : World) (hc : c < 256) : Calls Tryd.prog 29 #[.int .u8 (c : Int)] w fun e w' => e = .returned (.int .i64 (U.long c : Int)) ∧ w = w' := by
  have H := Lib.hid (show U.long c = if c < 128 then 1 else if 194 ≤ c ∧ c ≤ 223 then 2 else if 224 ≤ c ∧ c ≤ 239 then 3 else if 240 ≤ c ∧ c ≤ 244 then 4 else 0 from rfl)
  go_enter Tryd.func29, Tryd.ntmps29
  go_wp2
  all_goals
    go_ret
    refine ⟨rF_int ?_, rfl⟩
    rw [H.out]
    first | (rw [if_pos (by omega)]; rfl) | (rw [if_neg (by omega), if_pos (by omega)]; rfl) | (rw [if_neg (by omega), if_neg (by omega), if_pos (by omega)]; rfl) | (rw [if_neg (by omega), if_neg (by omega), if_neg (by omega), if_pos (by omega)]; rfl) | (rw [if_neg (by omega), if_neg (by omega), if_neg (by omega), if_neg (by omega)]; rfl)
set_option maxRecDepth 1000000 in
theorem secondF_any (c d : Nat) (w : World) (hc : c < 256) (hd : d < 256) : Calls Tryd.prog 30 #[.int .u8 (c : Int), .int .u8 (d : Int)] w fun e w' => e = .returned (.bool (U.snd c d)) ∧ w = w' := by
  have h : c = 224 ∨ c = 237 ∨ c = 240 ∨ c = 244 ∨ (c ≠ 224 ∧ c ≠ 237 ∧ c ≠ 240 ∧ c ≠ 244) := by omega
  rcases h with rfl | rfl | rfl | rfl | ⟨h1, h2, h3, h4⟩
  · have H := Lib.hid (show U.snd 224 d = decide (160 ≤ d ∧ d ≤ 191) from rfl)
    go_enter Tryd.func30, Tryd.ntmps30
    go_wp2
    all_goals
      go_ret
      refine ⟨rF_bool ?_, rfl⟩
      rw [H.out]
      first | (symm; rw [decide_eq_true_eq]; omega) | (symm; rw [decide_eq_false_iff_not]; omega) | (apply decide_eq_decide.2; omega)
  · have H := Lib.hid (show U.snd 237 d = decide (128 ≤ d ∧ d ≤ 159) from rfl)
    go_enter Tryd.func30, Tryd.ntmps30
    go_wp2
    all_goals
      go_ret
      refine ⟨rF_bool ?_, rfl⟩
      rw [H.out]
      first | (symm; rw [decide_eq_true_eq]; omega) | (symm; rw [decide_eq_false_iff_not]; omega) | (apply decide_eq_decide.2; omega)
  · have H := Lib.hid (show U.snd 240 d = decide (144 ≤ d ∧ d ≤ 191) from rfl)
    go_enter Tryd.func30, Tryd.ntmps30
    go_wp2
    all_goals
      go_ret
      refine ⟨rF_bool ?_, rfl⟩
      rw [H.out]
      first | (symm; rw [decide_eq_true_eq]; omega) | (symm; rw [decide_eq_false_iff_not]; omega) | (apply decide_eq_decide.2; omega)
  · have H := Lib.hid (show U.snd 244 d = decide (128 ≤ d ∧ d ≤ 143) from rfl)
    go_enter Tryd.func30, Tryd.ntmps30
    go_wp2
    all_goals
      go_ret
      refine ⟨rF_bool ?_, rfl⟩
      rw [H.out]
      first | (symm; rw [decide_eq_true_eq]; omega) | (symm; rw [decide_eq_false_iff_not]; omega) | (apply decide_eq_decide.2; omega)
  · have H := Lib.hid (show U.snd c d = decide (128 ≤ d ∧ d ≤ 191) by unfold U.snd; rw [(U.lo2_is c).2.2.2.2 h1 h3, (U.hi2_is c).2.2.2.2 h2 h4])
    go_enter Tryd.func30, Tryd.ntmps30
    go_wp2
    all_goals
      go_ret
      refine ⟨rF_bool ?_, rfl⟩
      rw [H.out]
      first | (symm; rw [decide_eq_true_eq]; omega) | (symm; rw [decide_eq_false_iff_not]; omega) | (apply decide_eq_decide.2; omega)


set_option maxRecDepth 1000000 in
theorem moreF_any (g o c : Nat) (b2 : Nat) (w : World) (hb : b2 < 256) (hc : 3 ≤ c) (h2 : w.cell? ⟨g, o + 2, none⟩ = some (.int .u8 (b2 : Int))) :
    Calls Tryd.prog 31 #[.slice (some ⟨g, o, none⟩) 3 c, .int .i64 2] w fun e w' => e = .returned (.bool (decide (128 ≤ b2 ∧ b2 ≤ 191))) ∧ w = w' := by
  obtain ⟨B, hB⟩ : ∃ B, decide (128 ≤ b2 ∧ b2 ≤ 191) = B := ⟨_, rfl⟩
  rw [hB]
  have HB := Lib.hid hB
  clear hB
  go_enter Tryd.func31, Tryd.ntmps31
  go_wp2
  all_goals
    go_ret
    refine ⟨rF_bool ?_, rfl⟩
    rw [← HB.out]
    first | (symm; rw [decide_eq_true_eq]; omega) | (symm; rw [decide_eq_false_iff_not]; omega) | (apply decide_eq_decide.2; omega)

theorem long_ask : ∀ b : Fin 256, (decide (1 < U.long b.1) = decide (1 < U.ask b.1)) ∧ (decide (2 < U.long b.1) = decide (2 < U.ask b.1)) ∧ (decide (3 < U.long b.1) = decide (3 < U.ask b.1)) := by decide +kernel
theorem snd_is : ∀ b : Fin 256, ∀ c : Fin 256, 2 < U.ask b.1 → U.snd b.1 c.1 = decide (U.lo b.1 ≤ c.1 ∧ c.1 ≤ U.hi b.1) := by decide +kernel

set_option maxRecDepth 1000000 in
theorem frontR1 (g o cap b0 : Nat) (w : World) (hb : b0 < 256) (hcap : 1 ≤ cap) (c0 : w.cell? ⟨g, o, none⟩ = some (.int .u8 (b0 : Int))) :
    Calls Tryd.prog 22 #[.slice (some ⟨g, o, none⟩) 1 cap] w fun e w' => e = .returned (.bool (decide (1 < U.long b0))) ∧ Below w.heap.size w w' := by
  have LO := Lib.hid (longF_any b0 w hb)
  obtain ⟨n, hn⟩ : ∃ n, U.long b0 = n := ⟨_, rfl⟩
  rw [hn] at LO ⊢
  clear hn
  by_cases h : n ≤ 1
  · have hd : decide (1 < n) = false := decide_eq_false (by omega)
    rw [hd]
    clear hd
    go_enter Tryd.func22, Tryd.ntmps22
    go_wp2_with (go_at_call 29; (with_reducible refine LO.out.mono ?_); rintro e w1 ⟨rfl, rfl⟩)
    go_ret
    exact ⟨rfl, Below.refl _ _⟩
  · have hd : decide (1 < n) = true := decide_eq_true (by omega)
    rw [hd]
    clear hd
    have h2 : 1 < n := by omega
    clear h
    go_enter Tryd.func22, Tryd.ntmps22
    go_wp2_with (go_at_call 29; (with_reducible refine LO.out.mono ?_); rintro e w1 ⟨rfl, rfl⟩)
    go_quiet (fail)
    go_wp2
    go_ret
    exact ⟨rfl, by (repeat' (first | (with_reducible exact Below.refl _ _) | (with_reducible assumption) | (with_reducible refine below_dn ?_ _) | (with_reducible refine Below.drew ?_) | (with_reducible refine Below.alloc ?_ ?_ _) | (with_reducible refine Below.setCell ?_ ?_ _) | go_size))⟩
set_option maxRecDepth 1000000 in
theorem frontR2 (g o cap b0 b1 : Nat) (w : World) (hb : b0 < 256) (hb1 : b1 < 256) (hcap : 2 ≤ cap) (c0 : w.cell? ⟨g, o, none⟩ = some (.int .u8 (b0 : Int))) (c1 : w.cell? ⟨g, o + 1, none⟩ = some (.int .u8 (b1 : Int))) :
    Calls Tryd.prog 22 #[.slice (some ⟨g, o, none⟩) 2 cap] w fun e w' => e = .returned (.bool (decide (2 < U.long b0) && U.snd b0 b1)) ∧ Below w.heap.size w w' := by
  have LO := Lib.hid (longF_any b0 w hb)
  have SE := Lib.hid (fun w => secondF_any b0 b1 w hb hb1)
  obtain ⟨n, hn⟩ : ∃ n, U.long b0 = n := ⟨_, rfl⟩
  obtain ⟨B, hB⟩ : ∃ n, U.snd b0 b1 = n := ⟨_, rfl⟩
  rw [hn] at LO ⊢
  rw [hB] at SE ⊢
  clear hn hB
  by_cases h : n ≤ 2
  · have hd : decide (2 < n) = false := decide_eq_false (by omega)
    rw [hd, Bool.false_and]
    clear hd
    go_enter Tryd.func22, Tryd.ntmps22
    go_wp2_with (go_at_call 29; (with_reducible refine LO.out.mono ?_); rintro e w1 ⟨rfl, rfl⟩)
    go_ret
    exact ⟨rfl, Below.refl _ _⟩
  · have hd : decide (2 < n) = true := decide_eq_true (by omega)
    rw [hd, Bool.true_and]
    clear hd
    have h2 : 2 < n := by omega
    clear h
    go_enter Tryd.func22, Tryd.ntmps22
    go_wp2_with (go_at_call 29; (with_reducible refine LO.out.mono ?_); rintro e w1 ⟨rfl, rfl⟩)
    go_quiet ((go_at_call 30; exact Calls.quiet_of_same ((SE.out _).mono fun _ _ h => ⟨h.1, h.2.symm⟩)))
    cases B
    all_goals
      go_wp2
      go_ret
      exact ⟨rfl, by (repeat' (first | (with_reducible exact Below.refl _ _) | (with_reducible assumption) | (with_reducible refine below_dn ?_ _) | (with_reducible refine Below.drew ?_) | (with_reducible refine Below.alloc ?_ ?_ _) | (with_reducible refine Below.setCell ?_ ?_ _) | go_size))⟩
set_option maxRecDepth 1000000 in
theorem frontR3 (g o cap b0 b1 b2 : Nat) (w : World) (hb : b0 < 256) (hb1 : b1 < 256) (hb2 : b2 < 256) (hcap : 3 ≤ cap) (c0 : w.cell? ⟨g, o, none⟩ = some (.int .u8 (b0 : Int))) (c1 : w.cell? ⟨g, o + 1, none⟩ = some (.int .u8 (b1 : Int))) (c2 : w.cell? ⟨g, o + 2, none⟩ = some (.int .u8 (b2 : Int))) :
    Calls Tryd.prog 22 #[.slice (some ⟨g, o, none⟩) 3 cap] w fun e w' => e = .returned (.bool (decide (3 < U.long b0) && U.snd b0 b1 && decide (128 ≤ b2 ∧ b2 ≤ 191))) ∧ Below w.heap.size w w' := by
  have LO := Lib.hid (longF_any b0 w hb)
  have SE := Lib.hid (fun w => secondF_any b0 b1 w hb hb1)
  have MO := Lib.hid (fun m => moreF_any g o cap b2 (w.drewN m) hb2 hcap c2)
  obtain ⟨n, hn⟩ : ∃ n, U.long b0 = n := ⟨_, rfl⟩
  obtain ⟨B, hB⟩ : ∃ n, U.snd b0 b1 = n := ⟨_, rfl⟩
  obtain ⟨C, hC⟩ : ∃ n, decide (128 ≤ b2 ∧ b2 ≤ 191) = n := ⟨_, rfl⟩
  rw [hn] at LO ⊢
  rw [hB] at SE ⊢
  rw [hC] at MO ⊢
  clear hn hB hC
  by_cases h : n ≤ 3
  · have hd : decide (3 < n) = false := decide_eq_false (by omega)
    rw [hd, Bool.false_and, Bool.false_and]
    clear hd
    go_enter Tryd.func22, Tryd.ntmps22
    go_wp2_with (go_at_call 29; (with_reducible refine LO.out.mono ?_); rintro e w1 ⟨rfl, rfl⟩)
    go_ret
    exact ⟨rfl, Below.refl _ _⟩
  · have hd : decide (3 < n) = true := decide_eq_true (by omega)
    rw [hd, Bool.true_and]
    clear hd
    have h2 : 3 < n := by omega
    clear h
    go_enter Tryd.func22, Tryd.ntmps22
    go_wp2_with (go_at_call 29; (with_reducible refine LO.out.mono ?_); rintro e w1 ⟨rfl, rfl⟩)
    go_quiet ((go_at_call 30; exact Calls.quiet_of_same ((SE.out _).mono fun _ _ h => ⟨h.1, h.2.symm⟩)))
    cases B
    · go_wp2
      go_ret
      exact ⟨rfl, by (repeat' (first | (with_reducible exact Below.refl _ _) | (with_reducible assumption) | (with_reducible refine below_dn ?_ _) | (with_reducible refine Below.drew ?_) | (with_reducible refine Below.alloc ?_ ?_ _) | (with_reducible refine Below.setCell ?_ ?_ _) | go_size))⟩
    · go_wp2_with (go_at_call 31; (with_reducible refine (MO.out _).mono ?_); rintro e w2 ⟨rfl, rfl⟩)
      go_ret
      exact ⟨rfl, by (repeat' (first | (with_reducible exact Below.refl _ _) | (with_reducible assumption) | (with_reducible refine below_dn ?_ _) | (with_reducible refine Below.drew ?_) | (with_reducible refine Below.alloc ?_ ?_ _) | (with_reducible refine Below.setCell ?_ ?_ _) | go_size))⟩

theorem frontR_any (g o n cap : Nat) (l : List UInt8) (w : World) (hn : l.length = n) (h1 : 0 < n) (h3 : n ≤ 3) (hc : n ≤ cap) (hB : ByAt w g o l) :
    Calls Tryd.prog 22 #[.slice (some ⟨g, o, none⟩) n cap] w fun e w' => e = .returned (.bool (frB l)) ∧ Below w.heap.size w w' := by
  subst hn
  match l, h1, h3 with
  | [b0], _, _ =>
    rw [show frB [b0] = decide (1 < U.long b0.toNat) from ((long_ask ⟨b0.toNat, b0.toNat_lt⟩).1).symm]
    exact frontR1 g o cap b0.toNat w b0.toNat_lt hc (by simpa using hB 0 b0 rfl)
  | [b0, b1], _, _ =>
    rw [show frB [b0, b1] = (decide (2 < U.long b0.toNat) && U.snd b0.toNat b1.toNat) by
      show decide (2 < U.ask b0.toNat ∧ U.lo b0.toNat ≤ b1.toNat ∧ b1.toNat ≤ U.hi b0.toNat) = _
      rw [(long_ask ⟨b0.toNat, b0.toNat_lt⟩).2.1]
      by_cases h : 2 < U.ask b0.toNat
      · rw [snd_is ⟨b0.toNat, b0.toNat_lt⟩ ⟨b1.toNat, b1.toNat_lt⟩ h]; simp [h]
      · simp [h]]
    exact frontR2 g o cap b0.toNat b1.toNat w b0.toNat_lt b1.toNat_lt hc (by simpa using hB 0 b0 rfl) (by simpa using hB 1 b1 rfl)
  | [b0, b1, b2], _, _ =>
    rw [show frB [b0, b1, b2] = (decide (3 < U.long b0.toNat) && U.snd b0.toNat b1.toNat && decide (128 ≤ b2.toNat ∧ b2.toNat ≤ 191)) by
      show decide (3 < U.ask b0.toNat ∧ U.lo b0.toNat ≤ b1.toNat ∧ b1.toNat ≤ U.hi b0.toNat ∧ 128 ≤ b2.toNat ∧ b2.toNat ≤ 191) = _
      rw [(long_ask ⟨b0.toNat, b0.toNat_lt⟩).2.2]
      by_cases h : 3 < U.ask b0.toNat
      · rw [snd_is ⟨b0.toNat, b0.toNat_lt⟩ ⟨b1.toNat, b1.toNat_lt⟩ (show 2 < U.ask b0.toNat by omega)]; simp [h, Bool.and_assoc]
      · simp [h]]
    exact frontR3 g o cap b0.toNat b1.toNat b2.toNat w b0.toNat_lt b1.toNat_lt b2.toNat_lt hc (by simpa using hB 0 b0 rfl) (by simpa using hB 1 b1 rfl) (by simpa using hB 2 b2 rfl)
  | _ :: _ :: _ :: _ :: _, _, h => simp at h
end Go.Proofs.YtokbmihjpllgpaaDoor
