/- Both Repairs. -/
import Derived.Test.YtokbmihjpllgpaaDoorBadsU
import Derived.Shelf.RegionOpenPlain
set_option linter.unusedVariables false
namespace Go.Proofs.YtokbmihjpllgpaaDoor
open Go.RowKit Go.Shelf Go.Lib Go.BigFrame
attribute [local go_sem] Oper.semAt_some

/-- A text, repaired. -/
def repB (s : ByteArray) : ByteArray := ⟨(textB (runesL s.data.toList)).toArray⟩
def badsN (s : ByteArray) : Nat := (badsL (U.signs s.data.toList)).length

set_option maxRecDepth 1000000 in
set_option maxHeartbeats 1000000 in
theorem repairU_any (s : ByteArray) (w : World) (hs : s.size ≤ 4194304) :
    Calls Tryd.prog 16 #[.string s] w fun e w' => e = .returned (.tuple #[.string (repB s), .int .i64 (badsN s : Int)]) ∧ Below w.heap.size w w' := by
  have hmo : Tryd.prog.follows .mixedOrders = true := by kernel_rfl
  have h0 : ∀ w : World, ∃ (v : Value) (W1 : World), (convert 9 44 (.string s)).run Tryd.prog w = .ok v W1 ∧ Below w.heap.size w W1 ∧
      ∀ W2, Below W1.heap.size W1 W2 → (convert 44 9 v).run Tryd.prog W2 = .ok (.string (repB s)) W2 := fun w => by
    obtain ⟨cap, W1, q1, q2, q3, q4⟩ := runes_conv s w hs
    exact ⟨_, W1, q1, q2, fun W2 hb => text_conv _ W2 _ _ (q4.below hb)⟩
  obtain ⟨V, h1⟩ := Classical.skolem.1 h0
  obtain ⟨nxF, h2⟩ := Classical.skolem.1 h1
  have BU := Lib.hid (fun w => badsU_any s w hs)
  have hc := fun W => (h2 W).1
  have HB := Lib.hid (fun W => (h2 W).2.1)
  have ht := fun W => (h2 W).2.2
  clear h0
  clear h1 h2
  obtain ⟨R, hR⟩ : ∃ R, repB s = R := ⟨_, rfl⟩
  rw [hR] at ht ⊢
  have hbn : badsN s = (badsL (U.signs s.data.toList)).length := rfl
  rw [hbn]
  obtain ⟨b, hbb⟩ : ∃ l, badsL (U.signs s.data.toList) = l := ⟨_, rfl⟩
  rw [hbb] at BU ⊢
  have t0 := fun W => ht W _ (Below.refl _ _)
  have t1 := fun W => ht W _ (Below.refl _ _).drew
  have t2 := fun W => ht W _ (Below.refl _ _).drew.drew
  have t3 := fun W => ht W _ (Below.refl _ _).drew.drew.drew
  have HT := Lib.hid ht
  clear hbb hR hbn ht
  go_enter Tryd.func16, Tryd.ntmps16
  go_wp2
  go_region_with_o (go_at_call 18; refine (BU.out _).mono ?_; rintro e w1 ⟨v, rfl, hb1, hrow⟩; obtain ⟨A, cp, rfl, hA⟩ := own_form hrow; try (have u0 := HT.out _ _ hb1); try (have u1 := HT.out _ _ hb1.drew); try (have u2 := HT.out _ _ (bst (Below.refl _ _).drew hb1)); try (have u3 := HT.out _ _ (bst (Below.refl _ _).drew hb1).drew); try (have u4 := HT.out _ _ (bst (Below.refl _ _).drew.drew hb1)); try (have u5 := HT.out _ _ (bst (Below.refl _ _).drew.drew hb1).drew))
  all_goals go_wp2
  all_goals go_ret2
  all_goals refine ⟨rfl, ?_⟩
  all_goals (repeat (first | (with_reducible exact Below.refl _ _) | (with_reducible assumption) | (with_reducible refine below_dn ?_ _) | (with_reducible refine Below.drew ?_) | (with_reducible refine bst ?_ (HB.out _)) | (with_reducible refine bst ?_ hb1)))

end Go.Proofs.YtokbmihjpllgpaaDoor
