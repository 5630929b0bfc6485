/- The reference's Place; both, for every input; the law of the places. -/
import Derived.Test.YtokbmihjpllgpaaLawSigns
set_option linter.unusedVariables false
namespace Go.Proofs.Ytokbmihjpllgpaa
open Go.RowKit Go.Shelf Go.Lib Go.BigFrame
attribute [local go_sem] Oper.semAt_some

/-- So far, in both units, of the signs from k on. -/
def PlR (l : List U.Sg) (f t at_ k a b : Nat) (r1 r2 : Nat) : Prop := U.plc f t at_ a b ((l.drop k).map tk) = (r1, r2) ∧ a ≤ at_ ∧ a ≤ 4 * k ∧ b ≤ 4 * k
theorem plR_at {l : List U.Sg} {f t at_ k a b r1 r2 : Nat} (h : PlR l f t at_ k a b r1 r2) (e : a = at_) : r1 = a ∧ r2 = b := by
  obtain ⟨h, -, -, -⟩ := h
  cases hd : (l.drop k).map tk with
  | nil => rw [hd, U.plc] at h; exact ⟨(Prod.mk.inj h).1.symm, (Prod.mk.inj h).2.symm⟩
  | cons y q => rw [hd, U.plc, if_pos (by omega)] at h; exact ⟨(Prod.mk.inj h).1.symm, (Prod.mk.inj h).2.symm⟩
theorem plR_end {l : List U.Sg} {f t at_ a b r1 r2 : Nat} (h : PlR l f t at_ l.length a b r1 r2) : r1 = a ∧ r2 = b := by
  obtain ⟨h, -, -, -⟩ := h
  rw [List.drop_length, List.map_nil, U.plc] at h
  exact ⟨(Prod.mk.inj h).1.symm, (Prod.mk.inj h).2.symm⟩
theorem plR_next {l : List U.Sg} {f t at_ k a b r1 r2 : Nat} {x : U.Sg} (h : PlR l f t at_ k a b r1 r2) (hx : l[k]? = some x) (hl : x.len ≤ 4) (e : a < at_) :
    (at_ < a + U.szu f (tk x) → r1 = a + U.szu f (tk x)) ∧ (a + U.szu f (tk x) ≤ at_ → PlR l f t at_ (k + 1) (a + U.szu f (tk x)) (b + U.szu t (tk x)) r1 r2) ∧ U.szu f (tk x) ≤ 4 ∧ U.szu t (tk x) ≤ 4 := by
  obtain ⟨h, h2, h3, h4⟩ := h
  have s1 := szu_le f (tk x) hl
  have s2 := szu_le t (tk x) hl
  have hd : l.drop k = x :: l.drop (k + 1) := by
    obtain ⟨hk, rfl⟩ := List.getElem?_eq_some_iff.1 hx
    exact List.drop_eq_getElem_cons hk
  rw [hd, List.map_cons, U.plc, if_neg (by omega)] at h
  refine ⟨fun hlt => ?_, fun hle => ⟨h, hle, by omega, by omega⟩, s1, s2⟩
  cases hq : (l.drop (k + 1)).map tk with
  | nil => rw [hq, U.plc] at h; exact (Prod.mk.inj h).1.symm
  | cons y q => rw [hq, U.plc, if_pos (by omega)] at h; exact (Prod.mk.inj h).1.symm

def plv (r1 r2 at_ : Nat) : Nat × Nat := if r1 = at_ then (r2, 0) else if at_ < r1 then (0, 21) else (0, 1)

set_option maxRecDepth 1000000 in
set_option maxHeartbeats 1000000 in
theorem placeR_main (s : ByteArray) (at_ f t : Nat) (w : World) (hs : s.size ≤ 4194304) (hf : 1 ≤ f ∧ f ≤ 3) (ht : 1 ≤ t ∧ t ≤ 3) (hat : at_ ≤ 9223372036854775807) :
    Calls Try.prog 28 #[.string s, .int .i64 (at_ : Int), .int .i64 (f : Int), .int .i64 (t : Int)] w fun e w' =>
      e = .returned (.tuple #[.int .i64 ((U.place f t at_ (U.toks s.data.toList)).1 : Int), .int .i64 ((U.place f t at_ (U.toks s.data.toList)).2 : Int)]) ∧ Below w.heap.size w w' := by
  obtain ⟨r1, r2, hr⟩ : ∃ r1 r2, U.plc f t at_ 0 0 (U.toks s.data.toList) = (r1, r2) := ⟨_, _, rfl⟩
  have hpl : U.place f t at_ (U.toks s.data.toList) = plv r1 r2 at_ := by unfold U.place plv; rw [hr]
  rw [hpl]
  clear hpl
  rw [← tk_signs] at hr
  have hll := signs_len_le s
  have h4 := signs_len4 s.data.toList
  have SG := signsR_any s w hs
  obtain ⟨l, hl⟩ : ∃ l, U.signs s.data.toList = l := ⟨_, rfl⟩
  rw [hl] at SG hll h4 hr
  clear hl
  have h0 : Hid (PlR l f t at_ 0 0 0 r1 r2) := Lib.hid ⟨hr, by omega, by omega, by omega⟩
  clear hr
  have H4 := Lib.hid h4
  clear h4
  have HSG := Lib.hid SG
  clear SG
  have kf : isUnit (f : Int) = true := decide_eq_true (by omega)
  have kt : isUnit (t : Int) = true := decide_eq_true (by omega)
  have sf := fun (a b c : Nat) (d : Bool) w => sizeR_any a b c d f w hf
  have st := fun (a b c : Nat) (d : Bool) w => sizeR_any a b c d t w ht
  obtain ⟨F, hF⟩ : ∃ F : Int, (f : Int) = F := ⟨_, rfl⟩
  obtain ⟨T, hT⟩ : ∃ T : Int, (t : Int) = T := ⟨_, rfl⟩
  rw [hF] at kf sf ⊢
  rw [hT] at kt st ⊢
  clear hF hT
  have KF := Lib.hid kf
  have KT := Lib.hid kt
  have SF := Lib.hid sf
  have ST := Lib.hid st
  clear kf kt sf st
  go_enter Try.func28, Try.ntmps28
  go_wp2_with (first | (go_at_call 54; refine (unit_any _ _).mono ?_; rintro e w' ⟨rfl, rfl⟩; first | rw [KF.out] | rw [KT.out]) | (go_at_call 22; refine HSG.out.mono ?_; rintro e w1 ⟨v, rfl, hb1, hrow⟩; obtain ⟨A, cp, rfl, hA⟩ := own_form hrow))
  go_loopw [11, 12, 13] (fun a b i wr => ∃ k m n : Nat, a = .int .i64 (m : Int) ∧ b = .int .i64 (n : Int) ∧ i = .int .i64 (k : Int) ∧ k ≤ l.length ∧ m ≤ at_ ∧ m ≤ 4 * k ∧ n ≤ 4 * k ∧ PlR l f t at_ k m n r1 r2 ∧ Below w.heap.size w wr ∧ Below w1.heap.size w1 wr) (fun _ _ i _ => l.length - (intOf i).toNat)
  case atStart => exact ⟨0, 0, 0, rfl, rfl, rfl, Nat.zero_le _, Nat.zero_le _, by omega, by omega, h0.out, hb1, Below.refl _ _⟩
  case round =>
    obtain ⟨k, m, n, rfl, rfl, rfl, hk, hm, hm4, hn4, hP, hB, hB1⟩ := hrel
    by_cases hlt : k < l.length
    · obtain ⟨g, rfl⟩ := hA (by omega)
      have hx : l[k]? = some l[k] := List.getElem?_eq_getElem hlt
      obtain ⟨x, hxx⟩ : ∃ x, l[k] = x := ⟨_, rfl⟩
      rw [hxx] at hx
      clear hxx
      have CR := Lib.hid (fun (wq : World) (hq : Below w1.heap.size w1 wq) => cellsR_at (own_below hrow hq) hx)
      obtain ⟨c0, c1, c2, c3⟩ := CR.out _ hB1
      by_cases he : m = at_
      · have hr := plR_at hP he
        have HR := Lib.hid hr
        have he' : (m : Int) = (at_ : Int) := by omega
        have hv : plv r1 r2 at_ = (n, 0) := by unfold plv; rw [hr.1, hr.2, if_pos he]
        have HV := Lib.hid hv
        clear hP hr he hv hx hrow hA
        go_wp2
        go_ret2
        exact ⟨by rw [HV.out]; rfl, hB⟩
      · have he' : ¬ (m : Int) = (at_ : Int) := by omega
        obtain ⟨hn1, hn2, s1, s2⟩ := plR_next hP hx (H4.out x (List.mem_of_getElem? hx)) (by omega)
        obtain ⟨zf, hzf⟩ : ∃ zf, U.szu f (tk x) = zf := ⟨_, rfl⟩
        obtain ⟨zt, hzt⟩ : ∃ zt, U.szu t (tk x) = zt := ⟨_, rfl⟩
        rw [hzf] at hn1 hn2 s1
        rw [hzt] at hn2 s2
        have ZF := Lib.hid hzf
        have ZT := Lib.hid hzt
        have N1 := Lib.hid hn1
        have N2 := Lib.hid hn2
        clear hzf hzt hn1 hn2 hP hx hrow hA
        by_cases hg : at_ < m + zf
        · have hg' : (at_ : Int) < (m : Int) + (zf : Int) := by omega
          have hv : plv r1 r2 at_ = (0, 21) := by unfold plv; rw [N1.out hg, if_neg (by omega), if_pos hg]
          have HV := Lib.hid hv
          clear hv
          go_wp2_with (go_at_call 55; go_must (first | ((with_reducible refine (SF.out _ _ _ _ _).mono ?_); rintro e w2 ⟨rfl, hb2⟩; rw [show U.szu f (x.rune, x.len) = zf from ZF.out]; obtain ⟨e0, e1, e2, e3⟩ := CR.out _ (bst hB1 hb2)) | ((with_reducible refine (ST.out _ _ _ _ _).mono ?_); rintro e w3 ⟨rfl, hb3⟩; rw [show U.szu t (x.rune, x.len) = zt from ZT.out])))
          go_ret2
          exact ⟨by rw [HV.out]; rfl, bst (bst hB hb2) hb3⟩
        · have hg' : ¬ (at_ : Int) < (m : Int) + (zf : Int) := by omega
          go_wp2_with (go_at_call 55; go_must (first | ((with_reducible refine (SF.out _ _ _ _ _).mono ?_); rintro e w2 ⟨rfl, hb2⟩; rw [show U.szu f (x.rune, x.len) = zf from ZF.out]; obtain ⟨e0, e1, e2, e3⟩ := CR.out _ (bst hB1 hb2)) | ((with_reducible refine (ST.out _ _ _ _ _).mono ?_); rintro e w3 ⟨rfl, hb3⟩; rw [show U.szu t (x.rune, x.len) = zt from ZT.out])))
          go_roundw
          case rel => exact ⟨k + 1, m + zf, n + zt, by go_num, by go_num, by go_num, hlt, by omega, by omega, by omega, N2.out (by omega), bst (bst hB hb2) hb3, bst (bst hB1 hb2) hb3⟩
          case measure => simp [intOf]; omega
    · obtain rfl : k = l.length := by omega
      obtain ⟨e1, e2⟩ := plR_end hP
      by_cases he : m = at_
      · have he' : (m : Int) = (at_ : Int) := by omega
        have hv : plv r1 r2 at_ = (n, 0) := by unfold plv; rw [e1, e2, if_pos he]
        have HV := Lib.hid hv
        clear hP e1 e2 he hv hrow hA
        go_wp2
        go_ret2
        exact ⟨by rw [HV.out]; rfl, hB⟩
      · have he' : ¬ (m : Int) = (at_ : Int) := by omega
        have hv : plv r1 r2 at_ = (0, 1) := by unfold plv; rw [e1, if_neg he, if_neg (by omega)]
        have HV := Lib.hid hv
        clear hP e1 e2 he hv hrow hA
        go_wp2
        go_ret2
        exact ⟨by rw [HV.out]; rfl, hB⟩

theorem placeI_main (s : ByteArray) (a f t : Nat) (hf : 1 ≤ f ∧ f ≤ 3) (ht : 1 ≤ t ∧ t ≤ 3) : placeI s (a : Int) (f : Int) (t : Int) = U.place f t a (U.toks s.data.toList) := by
  unfold placeI
  have k1 : isUnit (f : Int) = true := decide_eq_true (by omega)
  have k2 : isUnit (t : Int) = true := decide_eq_true (by omega)
  rw [k1, k2, if_neg (by simp), if_neg (by omega)]
  rfl

set_option maxRecDepth 1000000 in
/-- utf.Place, whatever it is given. -/
theorem place_any (s : ByteArray) (at_ f t : Int) (w : World) (hs : s.size ≤ 4194304) (hat : at_ ≤ 9223372036854775807) :
    Calls Try.prog 27 #[.string s, .int .i64 at_, .int .i64 f, .int .i64 t] w fun e w' =>
      e = .returned (.tuple #[.int .i64 ((placeI s at_ f t).1 : Int), .int .i64 ((placeI s at_ f t).2 : Int)]) ∧ Below w.heap.size w w' := by
  by_cases hf : isUnit f = true
  · by_cases ht : isUnit t = true
    · by_cases h0 : at_ < 0
      · have hp : placeI s at_ f t = (0, 1) := by unfold placeI; rw [hf, ht, if_neg (by simp), if_pos h0]
        rw [hp]
        have KF := Lib.hid hf
        have KT := Lib.hid ht
        clear hf ht hp
        refine (callsIn_wide (n := 0)).1 (callsIn_of_wp_marks Try.func27 rfl trivial (wpIn_wide.2 ?_) rfl)
        simp only [Try.ntmps27, List.size_toArray, List.length_cons, List.length_nil, Nat.reduceAdd, Nat.reduceSub, Array.replicate_succ, Array.replicate_zero, List.push_toArray, List.append_toArray, List.nil_append, List.cons_append]
        go_wp2_with (first | (go_at_call 53; refine (known_any _ _).mono ?_; rintro e w' ⟨rfl, rfl⟩; first | rw [KF.out] | rw [KT.out]))
        exact ⟨_, results_tmp2 rfl _ _ _, rfl, ((Below.refl _ _).alloc (Nat.le_refl _) _).alloc (by simp) _⟩
      · obtain ⟨f', rfl⟩ : ∃ n : Nat, f = n := ⟨f.toNat, by unfold isUnit at hf; have := of_decide_eq_true hf; omega⟩
        obtain ⟨t', rfl⟩ : ∃ n : Nat, t = n := ⟨t.toNat, by unfold isUnit at ht; have := of_decide_eq_true ht; omega⟩
        obtain ⟨a', rfl⟩ : ∃ n : Nat, at_ = n := ⟨at_.toNat, by omega⟩
        have h1 : 1 ≤ f' ∧ f' ≤ 3 := by unfold isUnit at hf; have := of_decide_eq_true hf; omega
        have h2 : 1 ≤ t' ∧ t' ≤ 3 := by unfold isUnit at ht; have := of_decide_eq_true ht; omega
        rw [placeI_main s a' f' t' h1 h2]
        exact place_main s a' f' t' w hs h1 h2 (by omega)
    · have hp : placeI s at_ f t = (0, 5) := by unfold placeI; rw [if_pos (by simp [ht])]
      rw [hp]
      have KF := Lib.hid hf
      have KT := Lib.hid (Bool.eq_false_iff.2 ht)
      clear hf ht hp
      refine (callsIn_wide (n := 0)).1 (callsIn_of_wp_marks Try.func27 rfl trivial (wpIn_wide.2 ?_) rfl)
      simp only [Try.ntmps27, List.size_toArray, List.length_cons, List.length_nil, Nat.reduceAdd, Nat.reduceSub, Array.replicate_succ, Array.replicate_zero, List.push_toArray, List.append_toArray, List.nil_append, List.cons_append]
      go_wp2_with (first | (go_at_call 53; refine (known_any _ _).mono ?_; rintro e w' ⟨rfl, rfl⟩; first | rw [KF.out] | rw [KT.out]))
      exact ⟨_, results_tmp2 rfl _ _ _, rfl, ((Below.refl _ _).alloc (Nat.le_refl _) _).alloc (by simp) _⟩
  · have hp : placeI s at_ f t = (0, 5) := by unfold placeI; rw [if_pos (by simp [hf])]
    rw [hp]
    have KF := Lib.hid (Bool.eq_false_iff.2 hf)
    clear hf hp
    refine (callsIn_wide (n := 0)).1 (callsIn_of_wp_marks Try.func27 rfl trivial (wpIn_wide.2 ?_) rfl)
    simp only [Try.ntmps27, List.size_toArray, List.length_cons, List.length_nil, Nat.reduceAdd, Nat.reduceSub, Array.replicate_succ, Array.replicate_zero, List.push_toArray, List.append_toArray, List.nil_append, List.cons_append]
    go_wp2_with (first | (go_at_call 53; refine (known_any _ _).mono ?_; rintro e w' ⟨rfl, rfl⟩; first | rw [KF.out]))
    exact ⟨_, results_tmp2 rfl _ _ _, rfl, ((Below.refl _ _).alloc (Nat.le_refl _) _).alloc (by simp) _⟩
end Go.Proofs.Ytokbmihjpllgpaa
