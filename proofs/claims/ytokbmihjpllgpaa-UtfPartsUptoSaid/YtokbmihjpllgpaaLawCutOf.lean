/- The law of the cuts of cuts. -/
import Derived.Test.YtokbmihjpllgpaaCutOfP
import Derived.Test.YtokbmihjpllgpaaLawBack
set_option linter.unusedVariables false
namespace Go.Proofs.Ytokbmihjpllgpaa
open Go.RowKit Go.Shelf Go.Lib Go.BigFrame
attribute [local go_sem] Oper.semAt_some

/-- What a call of Cut answers. -/
abbrev CutC (s : ByteArray) (u a b : Int) (S : ByteArray) (E : Int) : Prop := ∀ w, Calls Try.prog 44 #[.string s, .int .i64 u, .int .i64 a, .int .i64 b] w fun r w' => r = .returned (.tuple #[.string S, .int .i64 E]) ∧ Below w.heap.size w w'

theorem cutC_of (s : ByteArray) (x a b : Nat) (hs : s.size ≤ 1048576) (hx : x < 3) (hab : a ≤ b) (hb : b ≤ U.usum (1 + x) (U.toks s.data.toList)) {S : ByteArray} {E : Int}
    (h : ∀ n : Int, n = (U.usum (1 + x) (U.toks s.data.toList) : Nat) → CutOk s a b n ((U.place (1 + x) 1 a (U.toks s.data.toList)).1 : Int) ((U.place (1 + x) 1 a (U.toks s.data.toList)).2 : Int) ((U.place (1 + x) 1 b (U.toks s.data.toList)).1 : Int) ((U.place (1 + x) 1 b (U.toks s.data.toList)).2 : Int) S E) :
    CutC s (1 + (x : Int)) a b S E := fun w => by
  obtain ⟨t1, t2⟩ := total_le s x hx
  have e1 : placeI s (a : Int) (1 + (x : Int)) 1 = U.place (1 + x) 1 a (U.toks s.data.toList) := placeI_main s a (1 + x) 1 (by omega) (by omega)
  have e2 : placeI s (b : Int) (1 + (x : Int)) 1 = U.place (1 + x) 1 b (U.toks s.data.toList) := placeI_main s b (1 + x) 1 (by omega) (by omega)
  have h1 := fun w => place_any s a (1 + (x : Int)) 1 w (by omega) (by omega)
  have h2 := fun w => place_any s b (1 + (x : Int)) 1 w (by omega) (by omega)
  rw [e1] at h1
  rw [e2] at h2
  exact cut_utf s _ a b _ _ _ _ _ S E w hs (decide_eq_true (by omega)) h1 h2 (h _ rfl)

theorem cutC_bad (s : ByteArray) (x a b : Nat) (hs : s.size ≤ 1048576) (hx : x < 3) (hab : a ≤ b) (hb : b ≤ U.usum (1 + x) (U.toks s.data.toList))
    (h : U.place (1 + x) 1 a (U.toks s.data.toList) = (0, 21) ∨ ((U.place (1 + x) 1 a (U.toks s.data.toList)).2 = 0 ∧ U.place (1 + x) 1 b (U.toks s.data.toList) = (0, 21))) : CutC s (1 + (x : Int)) a b none_ 21 := by
  refine cutC_of s x a b hs hx hab hb (fun n hn => ?_)
  unfold CutOk
  rcases h with h | ⟨h, h'⟩
  · rw [h]
    refine .inr (.inr (.inr (.inl ⟨by omega, by omega, by omega, by omega, by omega, rfl, ?_, rfl, rfl⟩)))
    rcases U.place_is (1 + x) 1 b (U.toks s.data.toList) with ⟨q, e⟩ | ⟨q, e⟩ | ⟨q, e⟩
    · omega
    · rw [e]; exact .inr rfl
    · rw [e]; exact .inl rfl
  · rw [h, h']
    exact .inr (.inr (.inr (.inr (.inl ⟨by omega, by omega, by omega, by omega, by omega, rfl, rfl, rfl, rfl⟩))))
theorem cutC_ok (s : ByteArray) (x a b p1 p2 : Nat) (hs : s.size ≤ 1048576) (hx : x < 3) (hab : a ≤ b) (hb : b ≤ U.usum (1 + x) (U.toks s.data.toList))
    (h1 : U.place (1 + x) 1 a (U.toks s.data.toList) = (p1, 0)) (h2 : U.place (1 + x) 1 b (U.toks s.data.toList) = (p2, 0)) (hp : p1 ≤ p2) (hps : p2 ≤ s.size) : CutC s (1 + (x : Int)) a b (s.extract p1 p2) 0 := by
  refine cutC_of s x a b hs hx hab hb (fun n hn => ?_)
  unfold CutOk
  rw [h1, h2]
  exact .inr (.inr (.inr (.inr (.inr ⟨by omega, by omega, by omega, by omega, by omega, rfl, rfl, p1, p2, rfl, rfl, hp, hps, rfl, rfl⟩))))

/-- All that the law asks of its cuts. -/
theorem cutOf_facts (s : ByteArray) (x a b0 : Nat) (hs : s.size ≤ 1048576) (hx : x < 3) (hb : a + b0 ≤ U.usum (1 + x) (U.toks s.data.toList)) :
    (CutC s (1 + (x : Int)) a ((a + b0 : Nat) : Int) none_ 21 ∧ x ≠ 1) ∨
    (∃ p f r : ByteArray, CutC s (1 + (x : Int)) a ((a + b0 : Nat) : Int) p 0 ∧ p.size ≤ 1048576 ∧ total p (1 + (x : Int)) = b0 ∧
      (∀ c d : Nat, c ≤ d → d ≤ b0 → ∃ Q E, CutC p (1 + (x : Int)) c d Q E ∧ CutC s (1 + (x : Int)) ((a + c : Nat) : Int) ((a + d : Nat) : Int) Q E) ∧
      CutC s (1 + (x : Int)) 0 a f 0 ∧ CutC s (1 + (x : Int)) ((a + b0 : Nat) : Int) ((U.usum (1 + x) (U.toks s.data.toList) : Nat) : Int) r 0 ∧ f ++ p ++ r = s ∧
      (∀ w, Calls Try.prog 29 #[.string f, .string (p ++ r)] w fun e w' => e = .returned (.bool false) ∧ Below w.heap.size w w') ∧
      (∀ w, Calls Try.prog 29 #[.string (f ++ p), .string r] w fun e w' => e = .returned (.bool false) ∧ Below w.heap.size w w')) := by
  have hf := U.fit_toks s.data.toList
  obtain ⟨L, hL⟩ : ∃ L, U.toks s.data.toList = L := ⟨_, rfl⟩
  have h21 : ∀ q t, q ≤ U.usum (1 + x) L → U.place (1 + x) t q L = (0, 21) → x ≠ 1 := fun q t hq e h1 => by
    subst h1
    exact U.place_two t q L (hL ▸ hf) hq e
  have two : ∀ c m l, c ≤ U.usum m l → U.place m 1 c l = (0, 21) ∨ ∃ p q, l = p ++ q ∧ c = U.usum m p ∧ U.place m 1 c l = (U.usum 1 p, 0) := fun c m l hc => by
    rcases U.place_is m 1 c l with ⟨h, e⟩ | ⟨h, e⟩ | ⟨h, e⟩
    · omega
    · exact .inl e
    · obtain ⟨p, q, e1, e2, e3⟩ := U.place_split e
      exact .inr ⟨p, q, e1, e2, by rw [e, e3]⟩
  rw [hL] at hb
  rcases two a (1 + x) L (by omega) with ha | ⟨pre, q, hq, ha, ea⟩
  · exact .inl ⟨cutC_bad s x a (a + b0) hs hx (by omega) (by rw [hL]; exact hb) (.inl (by rw [hL]; exact ha)), h21 a 1 (by omega) ha⟩
  have hfq : U.Fit (pre ++ q) := by rw [← hq, ← hL]; exact hf
  have hbq : b0 ≤ U.usum (1 + x) q := by rw [hq, U.usum_append] at hb; omega
  have sh := U.place_shift (1 + x) pre q [] (by simpa using hfq) b0 hbq
  rw [List.append_nil, ← hq, ← ha] at sh
  rcases sh with ⟨_, eb⟩ | ⟨mid, post, hm, hb0, _, eb⟩
  · exact .inl ⟨cutC_bad s x a (a + b0) hs hx (by omega) (by rw [hL]; exact hb) (.inr ⟨by rw [hL, ea], by rw [hL]; exact eb⟩), h21 _ 1 hb eb⟩
  refine .inr ?_
  have hw : U.wsum L = s.size := by rw [← hL, U.wsum_toks, U.size_eq]
  have hL3 : L = pre ++ mid ++ post := by rw [hq, hm, List.append_assoc]
  have hw3 : U.wsum pre + U.wsum mid + U.wsum post = s.size := by rw [← hw, hL3, U.wsum_append, U.wsum_append]
  rw [U.usum_one'] at ea
  rw [U.usum_one', U.usum_one', ← U.wsum_append] at eb
  have hpm : U.wsum (pre ++ mid) = U.wsum pre + U.wsum mid := U.wsum_append _ _
  have hcut : U.toks (s.extract (U.wsum pre) (U.wsum (pre ++ mid))).data.toList = mid := by
    have h1 := (U.toks_cut (mid ++ post) pre s.data.toList (by rw [hL, hL3, List.append_assoc])).2
    have h2 := (U.toks_cut post mid _ h1).1
    rw [ext_list, hpm, Nat.add_sub_cancel_left]
    exact h2
  have e3 := ext_three s (U.wsum pre) (U.wsum (pre ++ mid)) (by omega) (by omega)
  have m1 := U.melts_cut s.data.toList pre (mid ++ post) (by rw [hL, hL3, List.append_assoc])
  have m2 := U.melts_cut s.data.toList (pre ++ mid) post (by rw [hL, hL3])
  have hsz : (s.extract (U.wsum pre) (U.wsum (pre ++ mid))).size ≤ 1048576 := by rw [ext_size s _ _ (by omega)]; omega
  have l1 : (s.extract 0 (U.wsum pre)).data.toList = s.data.toList.take (U.wsum pre) := by rw [ext_list, List.drop_zero, Nat.sub_zero]
  have l2 : (s.extract (U.wsum (pre ++ mid)) s.size).data.toList = s.data.toList.drop (U.wsum (pre ++ mid)) := by
    rw [ext_list]; exact List.take_of_length_le (by rw [List.length_drop, U.size_eq]; omega)
  have l3 : (s.extract (U.wsum pre) (U.wsum (pre ++ mid)) ++ s.extract (U.wsum (pre ++ mid)) s.size).data.toList = s.data.toList.drop (U.wsum pre) := by
    have := congrArg (fun t : ByteArray => t.data.toList) e3
    simp only [app_list] at this ⊢
    rw [l1, List.append_assoc] at this
    conv at this => rhs; rw [← List.take_append_drop (U.wsum pre) s.data.toList]
    exact List.append_cancel_left this
  have l4 : (s.extract 0 (U.wsum pre) ++ s.extract (U.wsum pre) (U.wsum (pre ++ mid))).data.toList = s.data.toList.take (U.wsum (pre ++ mid)) := by
    have := congrArg (fun t : ByteArray => t.data.toList) e3
    simp only [app_list] at this ⊢
    rw [l2] at this
    conv at this => rhs; rw [← List.take_append_drop (U.wsum (pre ++ mid)) s.data.toList]
    exact List.append_cancel_right this
  have z1 : (s.extract 0 (U.wsum pre)).size ≤ 1048576 := by rw [ext_size s _ _ (by omega)]; omega
  have z2 : (s.extract (U.wsum (pre ++ mid)) s.size).size ≤ 1048576 := by rw [ext_size s _ _ (by omega)]; omega
  refine ⟨s.extract (U.wsum pre) (U.wsum (pre ++ mid)), s.extract 0 (U.wsum pre), s.extract (U.wsum (pre ++ mid)) s.size,
    cutC_ok s x a (a + b0) _ _ hs hx (by omega) (by rw [hL]; exact hb) (by rw [hL]; exact ea) (by rw [hL]; exact eb) (by omega) (by omega), hsz, ?_, ?_, ?_, ?_, e3, ?_, ?_⟩
  · rw [(total_le _ x hx).1, hcut, hb0]
  · intro c d hcd hd
    have fm : U.Fit (pre ++ mid ++ post) := by rw [← hL3, ← hL]; exact hf
    have sc := U.place_shift (1 + x) pre mid post fm c (by omega)
    have sd := U.place_shift (1 + x) pre mid post fm d (by omega)
    rw [← hL3, ← ha] at sc sd
    have bd1 : d ≤ U.usum (1 + x) (U.toks (s.extract (U.wsum pre) (U.wsum (pre ++ mid))).data.toList) := by rw [hcut]; omega
    have bd2 : a + d ≤ U.usum (1 + x) (U.toks s.data.toList) := by rw [hL]; omega
    rcases sc with ⟨c1, c2⟩ | ⟨m1', m2', hm', hc', c1, c2⟩
    · exact ⟨none_, 21, cutC_bad _ x c d hsz hx hcd bd1 (.inl (by rw [hcut]; exact c1)), cutC_bad s x (a + c) (a + d) hs hx (by omega) bd2 (.inl (by rw [hL]; exact c2))⟩
    · rcases sd with ⟨d1, d2⟩ | ⟨n1, n2, hn', hd', d1, d2⟩
      · exact ⟨none_, 21, cutC_bad _ x c d hsz hx hcd bd1 (.inr ⟨by rw [hcut, c1], by rw [hcut]; exact d1⟩), cutC_bad s x (a + c) (a + d) hs hx (by omega) bd2 (.inr ⟨by rw [hL, c2], by rw [hL]; exact d2⟩)⟩
      · have hn1 : U.wsum n1 ≤ U.wsum mid := by rw [hn', U.wsum_append]; omega
        have hmn : U.usum 1 m1' ≤ U.usum 1 n1 := by
          have := U.plc_mono (1 + x) 1 c d hcd mid 0 0
          have g1 := U.plc_pre (1 + x) 1 m2' m1' 0 0 (fun y hy => fm y (by rw [hm']; simp [hy]))
          have g2 := U.plc_pre (1 + x) 1 n2 n1 0 0 (fun y hy => fm y (by rw [hn']; simp [hy]))
          rw [← hm', Nat.zero_add, Nat.zero_add, ← hc'] at g1
          rw [← hn', Nat.zero_add, Nat.zero_add, ← hd'] at g2
          rw [g1, g2] at this
          exact this
        rw [U.usum_one'] at c1 c2 d1 d2 hmn
        rw [U.usum_one'] at c2 d2 hmn
        refine ⟨_, 0, cutC_ok _ x c d _ _ hsz hx hcd bd1 (by rw [hcut]; exact c1) (by rw [hcut]; exact d1) hmn (by rw [ext_size s _ _ (by omega)]; omega), ?_⟩
        rw [ext_ext s _ _ _ _ (by omega) (by omega)]
        exact cutC_ok s x (a + c) (a + d) _ _ hs hx (by omega) bd2 (by rw [hL]; exact c2) (by rw [hL]; exact d2) (by omega) (by omega)
  · exact cutC_ok s x 0 a 0 _ hs hx (by omega) (by rw [hL]; omega) (U.place_pre (1 + x) 1 [] _ (fun _ h => by cases h)) (by rw [hL]; exact ea) (by omega) (by omega)
  · refine cutC_ok s x (a + b0) _ _ _ hs hx (by rw [hL]; exact hb) (Nat.le_refl _) (by rw [hL]; exact eb) ?_ (by omega) (Nat.le_refl _)
    have := U.place_pre (1 + x) 1 (U.toks s.data.toList) [] hf
    rw [List.append_nil] at this
    rw [this, U.usum_one, U.size_eq]
  · intro w
    refine (melts_any _ _ w (by omega) (by rw [ByteArray.size_append]; omega)).mono ?_
    rintro e w' ⟨rfl, hb⟩
    rw [l1, l3, m1]
    exact ⟨rfl, hb⟩
  · intro w
    refine (melts_any _ _ w (by rw [ByteArray.size_append]; omega) (by omega)).mono ?_
    rintro e w' ⟨rfl, hb⟩
    rw [l4, l2, m2]
    exact ⟨rfl, hb⟩
end Go.Proofs.Ytokbmihjpllgpaa
