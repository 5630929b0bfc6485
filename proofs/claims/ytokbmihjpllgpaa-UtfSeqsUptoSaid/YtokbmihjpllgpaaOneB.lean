/- ref.one: the ways behind a right second byte. -/
import Derived.Test.YtokbmihjpllgpaaOne
set_option linter.unusedVariables false
namespace Go.Proofs.Ytokbmihjpllgpaa
open Go.RowKit Go.Lib

set_option maxRecDepth 1000000 in
theorem one_bad2 (g n cap pos k : Nat) (l : List UInt8) (w : World) (hl : l.length = n) (hn : n ≤ 4194304) (hp : pos < n) (hB : BytesAt w g l) (hlong : U.long (U.by_ l pos) = k) (hk : 3 ≤ k) (hk4 : k ≤ 4) (hs : pos + 1 < n) (hsec : U.snd (U.by_ l pos) (U.by_ l (pos + 1)) = true) (h1 : 128 ≤ U.by_ l (pos + 1)) (h1' : U.by_ l (pos + 1) ≤ 191) (hm2 : moreB l (pos + 2) = false) :
    Calls Try.prog 50 #[.slice (some ⟨g, 0, none⟩) n cap, .int .i64 (pos : Int)] w fun e w' => e = .returned (refV pos 1 65533 true) ∧ Below w.heap.size w w' := by
  have hb := U.by_lt l pos
  have hb1 := U.by_lt l (pos + 1)
  have hc := hB pos (by omega)
  have hc1 := hB (pos + 1) (by omega)
  have hlt := World.block_lt_of_cell? w _ hc
  have hca : ∀ o : Obj, (w.alloc o).cell? ⟨g, pos, none⟩ = some (.int .u8 (U.by_ l pos : Int)) := fun o => (World.cell?_of_block (Below.heap_alloc w o g hlt)).trans hc
  have hcb : ∀ o o' : Obj, ((w.alloc o).alloc o').cell? ⟨g, pos, none⟩ = some (.int .u8 (U.by_ l pos : Int)) := fun o o' => (World.cell?_of_block (Below.heap_alloc _ o' g (by simp; exact Nat.lt_succ_of_lt hlt))).trans (hca o)
  have hcb1 : ∀ o o' : Obj, ((w.alloc o).alloc o').cell? ⟨g, pos + 1, none⟩ = some (.int .u8 (U.by_ l (pos + 1) : Int)) := fun o o' => (World.cell?_of_block (Below.heap_alloc _ o' g (by simp; exact Nat.lt_succ_of_lt hlt))).trans ((World.cell?_of_block (Below.heap_alloc w o g hlt)).trans hc1)
  have HB := Lib.hid (show ∀ (o o' : Obj) (m : Nat), BytesAt (((w.alloc o).alloc o').drewN m) g l from fun o o' m => (hB.below ((Below.refl _ _).alloc (Nat.le_refl _) o)).below (below_dn ((Below.refl _ _).alloc (Nat.le_refl _) o') m))
  have HL := Lib.hid hlong
  have HS := Lib.hid hsec
  have hd : decide ((n : Int) ≤ (pos : Int) + 1) = false := decide_eq_false (by omega)
  have M2 := Lib.hid hm2
  clear hm2
  clear hlong hsec hB
  go_enter Try.func50, Try.ntmps50
  go_wp2_with (go_at_call 68; refine (long_any _ _ hb).mono ?_; rintro e w' ⟨rfl, rfl⟩; rw [HL.out])
  go_quiet ((go_at_call 69; exact Calls.quiet_of_same ((second_any _ _ _ hb hb1).mono fun _ _ h => ⟨h.1.trans (by rw [HS.out]), h.2.symm⟩)))
  go_wp2_with (first | (go_at_call 70; refine (rest_i g n cap _ (pos + 1) l _ hl hn ?_ hs (HB.out _ _ _)).mono ?_; (omega); rintro e w' ⟨rfl, rfl⟩) | (go_at_call 71; refine (more_i g n cap _ (pos + 2) false l _ hl hn ?_ M2.out (HB.out _ _ _)).mono ?_; (omega); rintro e w' ⟨rfl, rfl⟩))
  refine wp_loop_rounds 1 ?_
  repeat any_goals (rw [rounds_succ]; go_wp2_with (first | (go_at_call 70; refine (rest_i g n cap _ (pos + 1) l _ hl hn ?_ hs (HB.out _ _ _)).mono ?_; (omega); rintro e w' ⟨rfl, rfl⟩) | (go_at_call 71; refine (more_i g n cap _ (pos + 2) false l _ hl hn ?_ M2.out (HB.out _ _ _)).mono ?_; (omega); rintro e w' ⟨rfl, rfl⟩)))
  exact bodyPost_ret (v := refV pos 1 65533 true) (by simp [results, Try.results50, go_sem, refV]) rfl ⟨rfl, by (repeat' (first | (with_reducible exact Below.refl _ _) | (with_reducible assumption) | (with_reducible refine below_dn ?_ _) | (with_reducible refine Below.drew ?_) | (with_reducible refine Below.alloc ?_ ?_ _) | (with_reducible refine Below.setCell ?_ ?_ _) | go_size))⟩

set_option maxRecDepth 1000000 in
theorem one_three (g n cap pos : Nat) (l : List UInt8) (w : World) (hl : l.length = n) (hn : n ≤ 4194304) (hp : pos < n) (hB : BytesAt w g l) (hlong : U.long (U.by_ l pos) = 3) (h0 : 224 ≤ U.by_ l pos) (h0' : U.by_ l pos ≤ 239) (hs : pos + 1 < n) (hsec : U.snd (U.by_ l pos) (U.by_ l (pos + 1)) = true) (h1 : 128 ≤ U.by_ l (pos + 1)) (h1' : U.by_ l (pos + 1) ≤ 191) (hs2 : pos + 2 < n) (hm2 : moreB l (pos + 2) = true) (h2 : 128 ≤ U.by_ l (pos + 2)) (h2' : U.by_ l (pos + 2) ≤ 191) :
    Calls Try.prog 50 #[.slice (some ⟨g, 0, none⟩) n cap, .int .i64 (pos : Int)] w fun e w' => e = .returned (refV pos 3 ((U.by_ l pos - 224) * 4096 + (U.by_ l (pos + 1) - 128) * 64 + (U.by_ l (pos + 2) - 128)) false) ∧ Below w.heap.size w w' := by
  have hb := U.by_lt l pos
  have hb1 := U.by_lt l (pos + 1)
  have hc := hB pos (by omega)
  have hc1 := hB (pos + 1) (by omega)
  have hlt := World.block_lt_of_cell? w _ hc
  have hca : ∀ o : Obj, (w.alloc o).cell? ⟨g, pos, none⟩ = some (.int .u8 (U.by_ l pos : Int)) := fun o => (World.cell?_of_block (Below.heap_alloc w o g hlt)).trans hc
  have hcb : ∀ o o' : Obj, ((w.alloc o).alloc o').cell? ⟨g, pos, none⟩ = some (.int .u8 (U.by_ l pos : Int)) := fun o o' => (World.cell?_of_block (Below.heap_alloc _ o' g (by simp; exact Nat.lt_succ_of_lt hlt))).trans (hca o)
  have hcb1 : ∀ o o' : Obj, ((w.alloc o).alloc o').cell? ⟨g, pos + 1, none⟩ = some (.int .u8 (U.by_ l (pos + 1) : Int)) := fun o o' => (World.cell?_of_block (Below.heap_alloc _ o' g (by simp; exact Nat.lt_succ_of_lt hlt))).trans ((World.cell?_of_block (Below.heap_alloc w o g hlt)).trans hc1)
  have HB := Lib.hid (show ∀ (o o' : Obj) (m : Nat), BytesAt (((w.alloc o).alloc o').drewN m) g l from fun o o' m => (hB.below ((Below.refl _ _).alloc (Nat.le_refl _) o)).below (below_dn ((Below.refl _ _).alloc (Nat.le_refl _) o') m))
  have HR := Lib.hid (show 64 * ((U.by_ l (pos + 1) : Int) - 128) + ((U.by_ l (pos + 2) : Int) - 128) + 4096 * ((U.by_ l pos : Int) - 224) = (((U.by_ l pos - 224) * 4096 + (U.by_ l (pos + 1) - 128) * 64 + (U.by_ l (pos + 2) - 128)) : Nat) by omega)
  have HL := Lib.hid hlong
  have HS := Lib.hid hsec
  have hd : decide ((n : Int) ≤ (pos : Int) + 1) = false := decide_eq_false (by omega)
  have M2 := Lib.hid hm2
  clear hm2
  clear hlong hsec hB
  go_enter Try.func50, Try.ntmps50
  go_wp2_with (go_at_call 68; refine (long_any _ _ hb).mono ?_; rintro e w' ⟨rfl, rfl⟩; rw [HL.out])
  go_quiet ((go_at_call 69; exact Calls.quiet_of_same ((second_any _ _ _ hb hb1).mono fun _ _ h => ⟨h.1.trans (by rw [HS.out]), h.2.symm⟩)))
  go_wp2_with (first | (go_at_call 70; refine (rest_i g n cap _ (pos + 1) l _ hl hn ?_ hs (HB.out _ _ _)).mono ?_; (omega); rintro e w' ⟨rfl, rfl⟩) | (go_at_call 70; refine (rest_i g n cap _ (pos + 2) l _ hl hn ?_ hs2 (HB.out _ _ _)).mono ?_; (omega); rintro e w' ⟨rfl, rfl⟩) | (go_at_call 71; refine (more_i g n cap _ (pos + 2) true l _ hl hn ?_ M2.out (HB.out _ _ _)).mono ?_; (omega); rintro e w' ⟨rfl, rfl⟩))
  refine wp_loop_rounds 2 ?_
  repeat any_goals (rw [rounds_succ]; go_wp2_with (first | (go_at_call 70; refine (rest_i g n cap _ (pos + 1) l _ hl hn ?_ hs (HB.out _ _ _)).mono ?_; (omega); rintro e w' ⟨rfl, rfl⟩) | (go_at_call 70; refine (rest_i g n cap _ (pos + 2) l _ hl hn ?_ hs2 (HB.out _ _ _)).mono ?_; (omega); rintro e w' ⟨rfl, rfl⟩) | (go_at_call 71; refine (more_i g n cap _ (pos + 2) true l _ hl hn ?_ M2.out (HB.out _ _ _)).mono ?_; (omega); rintro e w' ⟨rfl, rfl⟩)))
  exact bodyPost_ret (v := refV pos 3 _ false) (by simp [results, Try.results50, go_sem, refV, HR.out]) rfl ⟨rfl, by (repeat' (first | (with_reducible exact Below.refl _ _) | (with_reducible assumption) | (with_reducible refine below_dn ?_ _) | (with_reducible refine Below.drew ?_) | (with_reducible refine Below.alloc ?_ ?_ _) | (with_reducible refine Below.setCell ?_ ?_ _) | go_size))⟩

set_option maxRecDepth 1000000 in
theorem one_bad3 (g n cap pos : Nat) (l : List UInt8) (w : World) (hl : l.length = n) (hn : n ≤ 4194304) (hp : pos < n) (hB : BytesAt w g l) (hlong : U.long (U.by_ l pos) = 4) (h0 : 240 ≤ U.by_ l pos) (h0' : U.by_ l pos ≤ 244) (hs : pos + 1 < n) (hsec : U.snd (U.by_ l pos) (U.by_ l (pos + 1)) = true) (h1 : 128 ≤ U.by_ l (pos + 1)) (h1' : U.by_ l (pos + 1) ≤ 191) (hs2 : pos + 2 < n) (hm2 : moreB l (pos + 2) = true) (h2 : 128 ≤ U.by_ l (pos + 2)) (h2' : U.by_ l (pos + 2) ≤ 191) (hm3 : moreB l (pos + 3) = false) :
    Calls Try.prog 50 #[.slice (some ⟨g, 0, none⟩) n cap, .int .i64 (pos : Int)] w fun e w' => e = .returned (refV pos 1 65533 true) ∧ Below w.heap.size w w' := by
  have hb := U.by_lt l pos
  have hb1 := U.by_lt l (pos + 1)
  have hc := hB pos (by omega)
  have hc1 := hB (pos + 1) (by omega)
  have hlt := World.block_lt_of_cell? w _ hc
  have hca : ∀ o : Obj, (w.alloc o).cell? ⟨g, pos, none⟩ = some (.int .u8 (U.by_ l pos : Int)) := fun o => (World.cell?_of_block (Below.heap_alloc w o g hlt)).trans hc
  have hcb : ∀ o o' : Obj, ((w.alloc o).alloc o').cell? ⟨g, pos, none⟩ = some (.int .u8 (U.by_ l pos : Int)) := fun o o' => (World.cell?_of_block (Below.heap_alloc _ o' g (by simp; exact Nat.lt_succ_of_lt hlt))).trans (hca o)
  have hcb1 : ∀ o o' : Obj, ((w.alloc o).alloc o').cell? ⟨g, pos + 1, none⟩ = some (.int .u8 (U.by_ l (pos + 1) : Int)) := fun o o' => (World.cell?_of_block (Below.heap_alloc _ o' g (by simp; exact Nat.lt_succ_of_lt hlt))).trans ((World.cell?_of_block (Below.heap_alloc w o g hlt)).trans hc1)
  have HB := Lib.hid (show ∀ (o o' : Obj) (m : Nat), BytesAt (((w.alloc o).alloc o').drewN m) g l from fun o o' m => (hB.below ((Below.refl _ _).alloc (Nat.le_refl _) o)).below (below_dn ((Below.refl _ _).alloc (Nat.le_refl _) o') m))
  have HL := Lib.hid hlong
  have HS := Lib.hid hsec
  have hd : decide ((n : Int) ≤ (pos : Int) + 1) = false := decide_eq_false (by omega)
  have M2 := Lib.hid hm2
  have M3 := Lib.hid hm3
  clear hm2 hm3
  clear hlong hsec hB
  go_enter Try.func50, Try.ntmps50
  go_wp2_with (go_at_call 68; refine (long_any _ _ hb).mono ?_; rintro e w' ⟨rfl, rfl⟩; rw [HL.out])
  go_quiet ((go_at_call 69; exact Calls.quiet_of_same ((second_any _ _ _ hb hb1).mono fun _ _ h => ⟨h.1.trans (by rw [HS.out]), h.2.symm⟩)))
  go_wp2_with (first | (go_at_call 70; refine (rest_i g n cap _ (pos + 1) l _ hl hn ?_ hs (HB.out _ _ _)).mono ?_; (omega); rintro e w' ⟨rfl, rfl⟩) | (go_at_call 70; refine (rest_i g n cap _ (pos + 2) l _ hl hn ?_ hs2 (HB.out _ _ _)).mono ?_; (omega); rintro e w' ⟨rfl, rfl⟩) | (go_at_call 71; refine (more_i g n cap _ (pos + 2) true l _ hl hn ?_ M2.out (HB.out _ _ _)).mono ?_; (omega); rintro e w' ⟨rfl, rfl⟩) | (go_at_call 71; refine (more_i g n cap _ (pos + 3) false l _ hl hn ?_ M3.out (HB.out _ _ _)).mono ?_; (omega); rintro e w' ⟨rfl, rfl⟩))
  refine wp_loop_rounds 2 ?_
  repeat any_goals (rw [rounds_succ]; go_wp2_with (first | (go_at_call 70; refine (rest_i g n cap _ (pos + 1) l _ hl hn ?_ hs (HB.out _ _ _)).mono ?_; (omega); rintro e w' ⟨rfl, rfl⟩) | (go_at_call 70; refine (rest_i g n cap _ (pos + 2) l _ hl hn ?_ hs2 (HB.out _ _ _)).mono ?_; (omega); rintro e w' ⟨rfl, rfl⟩) | (go_at_call 71; refine (more_i g n cap _ (pos + 2) true l _ hl hn ?_ M2.out (HB.out _ _ _)).mono ?_; (omega); rintro e w' ⟨rfl, rfl⟩) | (go_at_call 71; refine (more_i g n cap _ (pos + 3) false l _ hl hn ?_ M3.out (HB.out _ _ _)).mono ?_; (omega); rintro e w' ⟨rfl, rfl⟩)))
  exact bodyPost_ret (v := refV pos 1 65533 true) (by simp [results, Try.results50, go_sem, refV]) rfl ⟨rfl, by (repeat' (first | (with_reducible exact Below.refl _ _) | (with_reducible assumption) | (with_reducible refine below_dn ?_ _) | (with_reducible refine Below.drew ?_) | (with_reducible refine Below.alloc ?_ ?_ _) | (with_reducible refine Below.setCell ?_ ?_ _) | go_size))⟩

set_option maxRecDepth 1000000 in
theorem one_four (g n cap pos : Nat) (l : List UInt8) (w : World) (hl : l.length = n) (hn : n ≤ 4194304) (hp : pos < n) (hB : BytesAt w g l) (hlong : U.long (U.by_ l pos) = 4) (h0 : 240 ≤ U.by_ l pos) (h0' : U.by_ l pos ≤ 244) (hs : pos + 1 < n) (hsec : U.snd (U.by_ l pos) (U.by_ l (pos + 1)) = true) (h1 : 128 ≤ U.by_ l (pos + 1)) (h1' : U.by_ l (pos + 1) ≤ 191) (hs2 : pos + 2 < n) (hm2 : moreB l (pos + 2) = true) (h2 : 128 ≤ U.by_ l (pos + 2)) (h2' : U.by_ l (pos + 2) ≤ 191) (hs3 : pos + 3 < n) (hm3 : moreB l (pos + 3) = true) (h3 : 128 ≤ U.by_ l (pos + 3)) (h3' : U.by_ l (pos + 3) ≤ 191) :
    Calls Try.prog 50 #[.slice (some ⟨g, 0, none⟩) n cap, .int .i64 (pos : Int)] w fun e w' => e = .returned (refV pos 4 ((U.by_ l pos - 240) * 262144 + (U.by_ l (pos + 1) - 128) * 4096 + (U.by_ l (pos + 2) - 128) * 64 + (U.by_ l (pos + 3) - 128)) false) ∧ Below w.heap.size w w' := by
  have hb := U.by_lt l pos
  have hb1 := U.by_lt l (pos + 1)
  have hc := hB pos (by omega)
  have hc1 := hB (pos + 1) (by omega)
  have hlt := World.block_lt_of_cell? w _ hc
  have hca : ∀ o : Obj, (w.alloc o).cell? ⟨g, pos, none⟩ = some (.int .u8 (U.by_ l pos : Int)) := fun o => (World.cell?_of_block (Below.heap_alloc w o g hlt)).trans hc
  have hcb : ∀ o o' : Obj, ((w.alloc o).alloc o').cell? ⟨g, pos, none⟩ = some (.int .u8 (U.by_ l pos : Int)) := fun o o' => (World.cell?_of_block (Below.heap_alloc _ o' g (by simp; exact Nat.lt_succ_of_lt hlt))).trans (hca o)
  have hcb1 : ∀ o o' : Obj, ((w.alloc o).alloc o').cell? ⟨g, pos + 1, none⟩ = some (.int .u8 (U.by_ l (pos + 1) : Int)) := fun o o' => (World.cell?_of_block (Below.heap_alloc _ o' g (by simp; exact Nat.lt_succ_of_lt hlt))).trans ((World.cell?_of_block (Below.heap_alloc w o g hlt)).trans hc1)
  have HB := Lib.hid (show ∀ (o o' : Obj) (m : Nat), BytesAt (((w.alloc o).alloc o').drewN m) g l from fun o o' m => (hB.below ((Below.refl _ _).alloc (Nat.le_refl _) o)).below (below_dn ((Below.refl _ _).alloc (Nat.le_refl _) o') m))
  have HR := Lib.hid (show 64 * (64 * ((U.by_ l (pos + 1) : Int) - 128) + ((U.by_ l (pos + 2) : Int) - 128)) + ((U.by_ l (pos + 3) : Int) - 128) + 262144 * ((U.by_ l pos : Int) - 240) = (((U.by_ l pos - 240) * 262144 + (U.by_ l (pos + 1) - 128) * 4096 + (U.by_ l (pos + 2) - 128) * 64 + (U.by_ l (pos + 3) - 128)) : Nat) by omega)
  have HL := Lib.hid hlong
  have HS := Lib.hid hsec
  have hd : decide ((n : Int) ≤ (pos : Int) + 1) = false := decide_eq_false (by omega)
  have M2 := Lib.hid hm2
  have M3 := Lib.hid hm3
  clear hm2 hm3
  clear hlong hsec hB
  go_enter Try.func50, Try.ntmps50
  go_wp2_with (go_at_call 68; refine (long_any _ _ hb).mono ?_; rintro e w' ⟨rfl, rfl⟩; rw [HL.out])
  go_quiet ((go_at_call 69; exact Calls.quiet_of_same ((second_any _ _ _ hb hb1).mono fun _ _ h => ⟨h.1.trans (by rw [HS.out]), h.2.symm⟩)))
  go_wp2_with (first | (go_at_call 70; refine (rest_i g n cap _ (pos + 1) l _ hl hn ?_ hs (HB.out _ _ _)).mono ?_; (omega); rintro e w' ⟨rfl, rfl⟩) | (go_at_call 70; refine (rest_i g n cap _ (pos + 2) l _ hl hn ?_ hs2 (HB.out _ _ _)).mono ?_; (omega); rintro e w' ⟨rfl, rfl⟩) | (go_at_call 70; refine (rest_i g n cap _ (pos + 3) l _ hl hn ?_ hs3 (HB.out _ _ _)).mono ?_; (omega); rintro e w' ⟨rfl, rfl⟩) | (go_at_call 71; refine (more_i g n cap _ (pos + 2) true l _ hl hn ?_ M2.out (HB.out _ _ _)).mono ?_; (omega); rintro e w' ⟨rfl, rfl⟩) | (go_at_call 71; refine (more_i g n cap _ (pos + 3) true l _ hl hn ?_ M3.out (HB.out _ _ _)).mono ?_; (omega); rintro e w' ⟨rfl, rfl⟩))
  refine wp_loop_rounds 3 ?_
  repeat any_goals (rw [rounds_succ]; go_wp2_with (first | (go_at_call 70; refine (rest_i g n cap _ (pos + 1) l _ hl hn ?_ hs (HB.out _ _ _)).mono ?_; (omega); rintro e w' ⟨rfl, rfl⟩) | (go_at_call 70; refine (rest_i g n cap _ (pos + 2) l _ hl hn ?_ hs2 (HB.out _ _ _)).mono ?_; (omega); rintro e w' ⟨rfl, rfl⟩) | (go_at_call 70; refine (rest_i g n cap _ (pos + 3) l _ hl hn ?_ hs3 (HB.out _ _ _)).mono ?_; (omega); rintro e w' ⟨rfl, rfl⟩) | (go_at_call 71; refine (more_i g n cap _ (pos + 2) true l _ hl hn ?_ M2.out (HB.out _ _ _)).mono ?_; (omega); rintro e w' ⟨rfl, rfl⟩) | (go_at_call 71; refine (more_i g n cap _ (pos + 3) true l _ hl hn ?_ M3.out (HB.out _ _ _)).mono ?_; (omega); rintro e w' ⟨rfl, rfl⟩)))
  exact bodyPost_ret (v := refV pos 4 _ false) (by simp [results, Try.results50, go_sem, refV, HR.out]) rfl ⟨rfl, by (repeat' (first | (with_reducible exact Below.refl _ _) | (with_reducible assumption) | (with_reducible refine below_dn ?_ _) | (with_reducible refine Below.drew ?_) | (with_reducible refine Below.alloc ?_ ?_ _) | (with_reducible refine Below.setCell ?_ ?_ _) | go_size))⟩
end Go.Proofs.Ytokbmihjpllgpaa
