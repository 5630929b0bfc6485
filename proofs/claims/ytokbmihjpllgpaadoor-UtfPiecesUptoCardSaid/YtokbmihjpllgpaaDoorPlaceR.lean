/- The reference's Place; both, for every input; the law of the places. -/
import Derived.Test.YtokbmihjpllgpaaDoorLawSigns
set_option linter.unusedVariables false
namespace Go.Proofs.YtokbmihjpllgpaaDoor
open Go.RowKit Go.Shelf Go.Lib Go.BigFrame
attribute [local go_sem] Oper.semAt_some

/-- So far, in both units, of the signs from k on. -/
def PlR (l : List U.Sg) (f t at_ k a b : Nat) (r1 r2 : Nat) : Prop := U.plc f t at_ a b ((l.drop k).map tk) = (r1, r2) ∧ a ≤ at_ ∧ a ≤ 4 * k ∧ b ≤ 4 * k
theorem plR_at {l : List U.Sg} {f t at_ k a b r1 r2 : Nat} (h : PlR l f t at_ k a b r1 r2) (e : a = at_) : r1 = a ∧ r2 = b := by
  obtain ⟨h, -, -, -⟩ := h
  cases hd : (l.drop k).map tk with
  | nil => rw [hd, U.plc] at h; exact ⟨(Prod.mk.inj h).1.symm, (Prod.mk.inj h).2.symm⟩
  | cons y q => rw [hd, U.plc, if_pos (by omega)] at h; exact ⟨(Prod.mk.inj h).1.symm, (Prod.mk.inj h).2.symm⟩
theorem plR_end {l : List U.Sg} {f t at_ a b r1 r2 : Nat} (h : PlR l f t at_ l.length a b r1 r2) : r1 = a ∧ r2 = b := by
  obtain ⟨h, -, -, -⟩ := h
  rw [List.drop_length, List.map_nil, U.plc] at h
  exact ⟨(Prod.mk.inj h).1.symm, (Prod.mk.inj h).2.symm⟩
theorem plR_next {l : List U.Sg} {f t at_ k a b r1 r2 : Nat} {x : U.Sg} (h : PlR l f t at_ k a b r1 r2) (hx : l[k]? = some x) (hl : x.len ≤ 4) (e : a < at_) :
    (at_ < a + U.szu f (tk x) → r1 = a + U.szu f (tk x)) ∧ (a + U.szu f (tk x) ≤ at_ → PlR l f t at_ (k + 1) (a + U.szu f (tk x)) (b + U.szu t (tk x)) r1 r2) ∧ U.szu f (tk x) ≤ 4 ∧ U.szu t (tk x) ≤ 4 := by
  obtain ⟨h, h2, h3, h4⟩ := h
  have s1 := szu_le f (tk x) hl
  have s2 := szu_le t (tk x) hl
  have hd : l.drop k = x :: l.drop (k + 1) := by
    obtain ⟨hk, rfl⟩ := List.getElem?_eq_some_iff.1 hx
    exact List.drop_eq_getElem_cons hk
  rw [hd, List.map_cons, U.plc, if_neg (by omega)] at h
  refine ⟨fun hlt => ?_, fun hle => ⟨h, hle, by omega, by omega⟩, s1, s2⟩
  cases hq : (l.drop (k + 1)).map tk with
  | nil => rw [hq, U.plc] at h; exact (Prod.mk.inj h).1.symm
  | cons y q => rw [hq, U.plc, if_pos (by omega)] at h; exact (Prod.mk.inj h).1.symm

def plv (r1 r2 at_ : Nat) : Nat × Nat := if r1 = at_ then (r2, 0) else if at_ < r1 then (0, 21) else (0, 1)

theorem placeI_main (s : ByteArray) (a f t : Nat) (hf : 1 ≤ f ∧ f ≤ 3) (ht : 1 ≤ t ∧ t ≤ 3) : placeI s (a : Int) (f : Int) (t : Int) = U.place f t a (U.toks s.data.toList) := by
  unfold placeI
  have k1 : isUnit (f : Int) = true := decide_eq_true (by omega)
  have k2 : isUnit (t : Int) = true := decide_eq_true (by omega)
  rw [k1, k2, if_neg (by simp), if_neg (by omega)]
  rfl

set_option maxRecDepth 1000000 in
/-- utf.Place, whatever it is given. -/
theorem place_any (s : ByteArray) (at_ f t : Int) (w : World) (hs : s.size ≤ 4194304) (hat : at_ ≤ 9223372036854775807) :
    Calls Tryd.prog 23 #[.string s, .int .i64 at_, .int .i64 f, .int .i64 t] w fun e w' =>
      e = .returned (.tuple #[.int .i64 ((placeI s at_ f t).1 : Int), .int .i64 ((placeI s at_ f t).2 : Int)]) ∧ Below w.heap.size w w' := by
  by_cases hf : isUnit f = true
  · by_cases ht : isUnit t = true
    · by_cases h0 : at_ < 0
      · have hp : placeI s at_ f t = (0, 1) := by unfold placeI; rw [hf, ht, if_neg (by simp), if_pos h0]
        rw [hp]
        have KF := Lib.hid hf
        have KT := Lib.hid ht
        clear hf ht hp
        refine (callsIn_wide (n := 0)).1 (callsIn_of_wp_marks Tryd.func23 rfl trivial (wpIn_wide.2 ?_) rfl)
        simp only [Tryd.ntmps23, List.size_toArray, List.length_cons, List.length_nil, Nat.reduceAdd, Nat.reduceSub, Array.replicate_succ, Array.replicate_zero, List.push_toArray, List.append_toArray, List.nil_append, List.cons_append]
        go_wp2_with (first | (go_at_call 32; refine (known_any _ _).mono ?_; rintro e w' ⟨rfl, rfl⟩; first | rw [KF.out] | rw [KT.out]))
        exact ⟨_, results_tmp2 rfl _ _ _, rfl, ((Below.refl _ _).alloc (Nat.le_refl _) _).alloc (by simp) _⟩
      · obtain ⟨f', rfl⟩ : ∃ n : Nat, f = n := ⟨f.toNat, by unfold isUnit at hf; have := of_decide_eq_true hf; omega⟩
        obtain ⟨t', rfl⟩ : ∃ n : Nat, t = n := ⟨t.toNat, by unfold isUnit at ht; have := of_decide_eq_true ht; omega⟩
        obtain ⟨a', rfl⟩ : ∃ n : Nat, at_ = n := ⟨at_.toNat, by omega⟩
        have h1 : 1 ≤ f' ∧ f' ≤ 3 := by unfold isUnit at hf; have := of_decide_eq_true hf; omega
        have h2 : 1 ≤ t' ∧ t' ≤ 3 := by unfold isUnit at ht; have := of_decide_eq_true ht; omega
        rw [placeI_main s a' f' t' h1 h2]
        exact place_main s a' f' t' w hs h1 h2 (by omega)
    · have hp : placeI s at_ f t = (0, 5) := by unfold placeI; rw [if_pos (by simp [ht])]
      rw [hp]
      have KF := Lib.hid hf
      have KT := Lib.hid (Bool.eq_false_iff.2 ht)
      clear hf ht hp
      refine (callsIn_wide (n := 0)).1 (callsIn_of_wp_marks Tryd.func23 rfl trivial (wpIn_wide.2 ?_) rfl)
      simp only [Tryd.ntmps23, List.size_toArray, List.length_cons, List.length_nil, Nat.reduceAdd, Nat.reduceSub, Array.replicate_succ, Array.replicate_zero, List.push_toArray, List.append_toArray, List.nil_append, List.cons_append]
      go_wp2_with (first | (go_at_call 32; refine (known_any _ _).mono ?_; rintro e w' ⟨rfl, rfl⟩; first | rw [KF.out] | rw [KT.out]))
      exact ⟨_, results_tmp2 rfl _ _ _, rfl, ((Below.refl _ _).alloc (Nat.le_refl _) _).alloc (by simp) _⟩
  · have hp : placeI s at_ f t = (0, 5) := by unfold placeI; rw [if_pos (by simp [hf])]
    rw [hp]
    have KF := Lib.hid (Bool.eq_false_iff.2 hf)
    clear hf hp
    refine (callsIn_wide (n := 0)).1 (callsIn_of_wp_marks Tryd.func23 rfl trivial (wpIn_wide.2 ?_) rfl)
    simp only [Tryd.ntmps23, List.size_toArray, List.length_cons, List.length_nil, Nat.reduceAdd, Nat.reduceSub, Array.replicate_succ, Array.replicate_zero, List.push_toArray, List.append_toArray, List.nil_append, List.cons_append]
    go_wp2_with (first | (go_at_call 32; refine (known_any _ _).mono ?_; rintro e w' ⟨rfl, rfl⟩; first | rw [KF.out]))
    exact ⟨_, results_tmp2 rfl _ _ _, rfl, ((Below.refl _ _).alloc (Nat.le_refl _) _).alloc (by simp) _⟩
end Go.Proofs.YtokbmihjpllgpaaDoor
