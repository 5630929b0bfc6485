/- The document's Text and Encode, of this seat. -/
import Derived.Test.YtclblidfamabdaaG16
import Derived.Lib.RuneBytes
import Derived.Laws.Cover4
import Derived.Laws.BytesArg
import Derived.Laws.IdiomStrings
set_option linter.unusedVariables false
set_option linter.unusedSimpArgs false
namespace Go.Proofs.Ytclblidfamabdaa
open Go.RowKit Go.Shelf Go.Lib Go.BigFrame
attribute [local go_sem] Oper.semAt_some
theorem u8_of (n : Nat) (z : Int) (h : z = n) : UInt8.ofNat n = z.toNat.toUInt8 := by subst h; rfl
theorem enc_eq (r : Int) : (Utf8.encode r).data.toList = Lib.encodeRune r := by
  unfold Utf8.encode
  by_cases hv : Utf8.valid r = true
  · have hv' : 0 ≤ r ∧ r ≤ 1114111 ∧ ¬ (55296 ≤ r ∧ r ≤ 57343) := by
      simp [Utf8.valid] at hv
      omega
    simp only [hv, if_true]
    unfold Lib.encodeRune
    by_cases c1 : r.toNat < 128
    · rw [if_pos c1, Lib.encodeRuneZ_one (by omega) (by omega)]
      simp only [List.map_cons, List.map_nil]
    · rw [if_neg c1]
      by_cases c2 : r.toNat < 2048
      · rw [if_pos c2, Lib.encodeRuneZ_two (by omega) (by omega)]
        simp only [List.map_cons, List.map_nil]
        rw [u8_of _ (192 + r / 64) (by omega), u8_of _ (128 + r % 64) (by omega)]
      · rw [if_neg c2]
        by_cases c3 : r.toNat < 65536
        · rw [if_pos c3, Lib.encodeRuneZ_three (by omega)]
          simp only [List.map_cons, List.map_nil]
          rw [u8_of _ (224 + r / 4096) (by omega), u8_of _ (128 + r / 64 % 64) (by omega), u8_of _ (128 + r % 64) (by omega)]
        · rw [if_neg c3, Lib.encodeRuneZ_four (by omega) (by omega)]
          simp only [List.map_cons, List.map_nil]
          rw [u8_of _ (240 + r / 262144) (by omega), u8_of _ (128 + r / 4096 % 64) (by omega), u8_of _ (128 + r / 64 % 64) (by omega), u8_of _ (128 + r % 64) (by omega)]
  · have hv' : r < 0 ∨ (55296 ≤ r ∧ r ≤ 57343) ∨ 1114111 < r := by
      simp [Utf8.valid] at hv
      omega
    simp only [hv, Bool.false_eq_true, if_false]
    unfold Lib.encodeRune
    rw [Lib.encodeRuneZ_bad hv']
    rfl

theorem foldl_list (l : List Int) : ∀ (s : ByteArray), (l.foldl (fun r n => r ++ Utf8.encode n) s).data.toList = s.data.toList ++ textB l := by
  induction l with
  | nil => intro s; simp [textB]
  | cons x l ih =>
    intro s
    have h2 : (s ++ Utf8.encode x).data.toList = s.data.toList ++ (Utf8.encode x).data.toList := by simp
    rw [List.foldl_cons, ih, h2, enc_eq, List.append_assoc]
    rfl
theorem runesBytes_eq (l : List Int) : runesBytes l = ⟨(textB l).toArray⟩ := by
  have h := foldl_list l ByteArray.empty
  unfold runesBytes
  generalize l.foldl (fun r n => r ++ Utf8.encode n) ByteArray.empty = t at h
  cases t
  simp only at h
  congr 1
  apply Array.toList_inj.1
  rw [h]
  rfl

/-- What a row of bytes holds. -/
def BytesZ (W : World) (g : Nat) (l : List Value) : Prop := ∀ (j : Nat) (u : Value), l[j]? = some u → W.cell? ⟨g, j, none⟩ = some u
theorem bytesZ_new (w : World) (t : TypeId) (l : List Value) : BytesZ (w.alloc (.cells l.toArray t)) w.heap.size l := fun j u h => by
  have := World.alloc_heap_new w (.cells l.toArray t)
  unfold World.cell?
  simp only [this, List.getElem?_toArray, h]
  rfl

/-- What Encode answers. -/
def EncP (r : Int) (w : World) (e : Ending) (w' : World) : Prop := ∃ g cap, e = .returned (.slice (some ⟨g, 0, none⟩) (Lib.encodeRuneZ r).length cap) ∧ Below w.heap.size w w' ∧ w.heap.size ≤ g ∧ BytesZ w' g (Lib.runeCells r)
theorem encP (r : Int) (w : World) (l : List Int) (c : Nat) (t : TypeId) (h : Lib.encodeRuneZ r = l) (n : Nat) (hn : n = l.length) : EncP r w (.returned (.slice (some ⟨w.heap.size, 0, none⟩) n c)) (w.alloc (.cells ((l.map (Value.int .u8)).toArray) t)) := by
  subst hn
  refine ⟨w.heap.size, c, by rw [h], (Below.refl _ _).alloc (Nat.le_refl _) _, Nat.le_refl _, ?_⟩
  unfold Lib.runeCells
  rw [h]
  exact bytesZ_new w _ _

set_option maxRecDepth 1000000 in
set_option maxHeartbeats 2000000 in
theorem encode_any (r : Int) (w : World) : Calls Try.prog 78 #[.int .i64 r] w (EncP r w) := by
  have U8 := fun z (h : 0 ≤ z ∧ z < 256) => (show IntKind.u8.wrap z = z by simp [IntKind.wrap, IntKind.signed, IntKind.bits]; omega)
  by_cases hb : r < 0 ∨ (55296 ≤ r ∧ r ≤ 57343) ∨ 1114111 < r
  · have K := Lib.hid (fun c => encP r w [239, 191, 189] c 5 (Lib.encodeRuneZ_bad hb) 3 rfl)
    rcases hb with h | ⟨h, h'⟩ | h
    · go_enter Try.func78, Try.ntmps78
      go_wp2
      go_ret
      exact K.out _
    · have n1 : ¬ r < 0 := by omega
      have n2 : ¬ 1114111 < r := by omega
      go_enter Try.func78, Try.ntmps78
      go_wp2
      go_ret
      exact K.out _
    · have n1 : ¬ r < 0 := by omega
      go_enter Try.func78, Try.ntmps78
      go_wp2
      go_ret
      exact K.out _
  · have n1 : ¬ r < 0 := by omega
    have n2 : ¬ 1114111 < r := by omega
    have ns : r < 55296 ∨ 57343 < r := by omega
    have dq : ∀ k : Int, r.tdiv k = r / k := fun k => Int.tdiv_eq_ediv_of_nonneg (by omega)
    have q1 := dq 64
    have q2 := dq 4096
    have q3 := dq 262144
    have m1 : r.tmod 64 = r % 64 := Int.tmod_eq_emod_of_nonneg (by omega)
    have m2 : (r / 64).tmod 64 = r / 64 % 64 := Int.tmod_eq_emod_of_nonneg (by omega)
    have m3 : (r / 4096).tmod 64 = r / 4096 % 64 := Int.tmod_eq_emod_of_nonneg (by omega)
    clear dq hb
    by_cases c1 : r < 128
    · have K := Lib.hid (fun c => encP r w [r] c 5 (Lib.encodeRuneZ_one (by omega) (by omega)) 1 rfl)
      have u1 := U8 r (by omega)
      have n3 : ¬ 55296 ≤ r := by omega
      clear U8 q1 q2 q3 m1 m2 m3 ns
      go_enter Try.func78, Try.ntmps78
      go_wp2
      go_ret
      exact K.out _
    · by_cases c2 : r < 2048
      · have K := Lib.hid (fun c => encP r w [192 + r / 64, 128 + r % 64] c 5 (Lib.encodeRuneZ_two (by omega) (by omega)) 2 rfl)
        have u1 := U8 (192 + r / 64) (by omega)
        have u2 := U8 (128 + r % 64) (by omega)
        have n3 : ¬ 55296 ≤ r := by omega
        clear U8 q2 q3 m2 m3 ns
        go_enter Try.func78, Try.ntmps78
        go_wp2
        go_ret
        exact K.out _
      · by_cases c3 : r < 65536
        · have K := Lib.hid (fun c => encP r w [224 + r / 4096, 128 + r / 64 % 64, 128 + r % 64] c 5 (Lib.encodeRuneZ_three (by omega)) 3 rfl)
          have u1 := U8 (224 + r / 4096) (by omega)
          have u2 := U8 (128 + r / 64 % 64) (by omega)
          have u3 := U8 (128 + r % 64) (by omega)
          clear U8 q3 m3
          rcases ns with ns | ns
          · have n3 : ¬ 55296 ≤ r := by omega
            go_enter Try.func78, Try.ntmps78
            go_wp2
            go_ret
            exact K.out _
          · have n3 : 55296 ≤ r := by omega
            have n4 : ¬ r ≤ 57343 := by omega
            go_enter Try.func78, Try.ntmps78
            go_wp2
            go_ret
            exact K.out _
        · have K := Lib.hid (fun c => encP r w [240 + r / 262144, 128 + r / 4096 % 64, 128 + r / 64 % 64, 128 + r % 64] c 5 (Lib.encodeRuneZ_four (by omega) (by omega)) 4 rfl)
          have u1 := U8 (240 + r / 262144) (by omega)
          have u2 := U8 (128 + r / 64 % 64) (by omega)
          have u3 := U8 (128 + r % 64) (by omega)
          have u4 := U8 (128 + r / 4096 % 64) (by omega)
          have n3 : 55296 ≤ r := by omega
          have n4 : ¬ r ≤ 57343 := by omega
          clear U8 ns
          go_enter Try.func78, Try.ntmps78
          go_wp2
          go_ret
          exact K.out _

/-- 'string(b)' of a row of bytes of one's own. -/
theorem str_of_row (w : World) (base : Nat) (v : Value) (l : List Int) (h : w.ownsRow base 5 1 v (runesC l).length (runesC l)) :
    (convert 77 9 v).run Try.prog w = .ok (.string ⟨(textB l).toArray⟩) w := by
  have hl : (runesC l).length = (textB l).length := by rw [runesC_eq, Lib.byteCells_length]
  rcases h.2 with ⟨rfl, h0⟩ | ⟨g, cap, cur, rfl, _⟩
  · have hn : textB l = [] := List.length_eq_zero_iff.1 (by omega)
    rw [hn]
    exact run_convert_bytes_nil w 77 5 Try.underlying77 Try.underlying5 0 0 9 Try.underlying9
  · have hc := fun j u => row_cell h j u
    rw [hl]
    refine run_convert_bytes_back w 77 9 5 ⟨g, 0, none⟩ cap (textB l) Try.underlying77 Try.underlying5 Try.underlying9 (fun j hj => ?_)
    rw [show (⟨g, 0, none⟩ : Addr).add j = ⟨g, j, none⟩ by unfold Addr.add; split <;> simp_all]
    refine hc j _ ?_
    rw [runesC_eq]
    simp [Lib.byteCells, hj]

theorem Try.infoU8 : (Try.prog.info? 5).map (fun i => (i.zero, i.size, i.bytes)) = some (some (.int .u8 0), 1, 1) := by kernel_rfl

set_option maxRecDepth 1000000 in
theorem textR_any (v : Value) (l : List Int) (b1 : Nat) (w : World) (hl : l.length ≤ 17592186044416) (hv : w.ownsRow b1 3 1 v l.length (nums l)) :
    Calls Try.prog 52 #[v] w fun e w' => e = .returned (.string ⟨(textB l).toArray⟩) ∧ Below w.heap.size w w' := by
  obtain ⟨i0, hi, hz0, hz1, hz2⟩ := info_parts Try.infoU8
  obtain ⟨A, cp, rfl, hA⟩ := own_form hv
  go_enter Try.func52, Try.ntmps52
  go_wp2
  go_loopw [3, 4] (fun o i wr => ∃ k : Nat, i = .int .i64 (k : Int) ∧ k ≤ l.length ∧ Below w.heap.size w wr ∧ wr.ownsRow w.heap.size 5 1 o (runesC (l.take k)).length (runesC (l.take k))) (fun _ i _ => l.length - (RowKit.intOf i).toNat)
  case atStart => exact ⟨0, rfl, Nat.zero_le _, Below.refl _ _, World.ownsRow_nil _ _ _ _⟩
  case round =>
    obtain ⟨k, rfl, hk, hB, hrow⟩ := hrel
    by_cases hlt : k < l.length
    · obtain ⟨g, rfl⟩ := hA (by omega)
      obtain ⟨x, hx⟩ : ∃ s, l[k]? = some s := ⟨_, List.getElem?_eq_getElem hlt⟩
      have c0 := nums_at (own_below hv hB) hx
      have HT := Lib.hid (show l.take (k + 1) = l.take k ++ [x] by rw [List.take_add_one, hx]; rfl)
      have hrl := runesC_len (l.take k)
      rw [List.length_take] at hrl
      have hcl := Lib.runeCells_le x
      have hzl : (Lib.runeCells x).length = (Lib.encodeRuneZ x).length := by simp [Lib.runeCells]
      have hone := runesC_one [x]
      rw [show runesC [x] = Lib.runeCells x by simp [runesC]] at hone
      obtain ⟨M, hM⟩ : ∃ M, runesC (l.take k) = M := ⟨_, rfl⟩
      rw [hM] at hrow hrl
      have HM := Lib.hid hM
      have hBs := hB.size
      clear hx hv hA hM
      go_wp2_with (first
        | (go_at_call 78; refine (encode_any _ _).mono ?_; rintro e w1 ⟨g1, cp1, rfl, hb1, hg1, hbz⟩)
        | (at_builtin; go_must (refine wpList_append_own _ rfl _ _ 77 rfl w.heap.size 5 i0 _ 1 1 Try.underlying77 hi hz0 hz1 hz2 rfl (by decide) _ _ _ rfl (own_below hrow hb1) ⟨g1, 0, none⟩ (Lib.encodeRuneZ x).length cp1 (Lib.runeCells x) rfl (by rw [hzl, Nat.mul_one]) (fun j u hu => by have := hbz j u hu; rwa [show (⟨g1, 0, none⟩ : Addr).add j = ⟨g1, j, none⟩ by unfold Addr.add; split <;> simp_all]) hone (by unfold maxLen; omega) (by omega) (by have := hb1.size; omega) ?_); intro v' w2 hown hg _))
      have hb1s := hb1.size
      go_roundw
      case rel =>
        refine ⟨k + 1, by go_num, hlt, (bst hB hb1).grown hg (by omega) (fun q e => by have := (hrow.lt q e).1; omega), ?_⟩
        rw [HT.out, runesC_snoc, HM.out, List.length_append, hzl]
        exact hown
      case measure => simp [RowKit.intOf]; omega
    · obtain rfl : k = l.length := by omega
      rw [List.take_length] at hrow
      have hcv := str_of_row _ _ _ _ hrow
      go_wp2
      go_ret
      exact ⟨rfl, hB⟩


end Go.Proofs.Ytclblidfamabdaa
