/- cell.Clusters: the iterator. -/
import Derived.Test.YtclblidfamabdaaCellN
set_option linter.unusedVariables false
set_option linter.unusedSimpArgs false
namespace Go.Proofs.Ytclblidfamabdaa
open Go.RowKit Go.Shelf Go.Lib Go.BigFrame
attribute [local go_sem] Oper.semAt_some

theorem sign_any (tks : List U.Tk) (hz : U.wsum tks ≤ 4194304) (hl : tks.length ≤ 4194304) (A : World) (B l Bn : Nat) (hBn : Bn < B) (d : List U.Tk) (t : U.Tk) (rest : List U.Tk) (htk : tks = d ++ t :: rest)
    (h : St A B l (C.pst d).2.1 (U.wsum d) t.1 (C.pst d).2.2) (J Jx : List C.Cl → World → Prop) (hJ : ∀ pre A B', Fr (fun k => k < B ∨ B + 6 ≤ k) A B' → J pre A → J pre B')
    (hY : ∀ pre x post W1, C.clus tks = pre ++ x :: post → B + 6 ≤ W1.heap.size → J pre W1 → YieldAt Fence.wide 0 Try.prog l #[encC x] W1 fun e W' =>
      (e = .returned (.bool true) ∧ J (pre ++ [x]) W' ∧ Fr (fun k => k = Bn ∨ (B ≤ k ∧ k < B + 6)) W1 W') ∨ (e = .returned (.bool false) ∧ Jx (pre ++ [x]) W'))
    (hA : B + 6 ≤ A.heap.size) (hj : J (C.pst d).1 A) :
    CallsIn Fence.wide 0 Try.prog 69 (argsN B (U.wsum d + t.2)) A fun e A' =>
      (e = .returned (.bool true) ∧ St A' B l (C.pst (d ++ [t])).2.1 (U.wsum d) t.1 true ∧ J (C.pst (d ++ [t])).1 A' ∧ Fr (fun k => k = Bn ∨ k = B + 5) A A') ∨
      (e = .returned (.bool false) ∧ ∃ pre, pre <+: C.clus tks ∧ pre ≠ [] ∧ Jx pre A') := by
  have hw : U.wsum tks = U.wsum d + (t.2 + U.wsum rest) := by rw [htk]; simp [U.wsum]
  have hlen : tks.length = d.length + (rest.length + 1) := by rw [htk]; simp
  by_cases hd : d = []
  · subst hd
    refine (sign_first A B l _ _ _ t.2 h (by simp [C.pst, C.zero]) (by simp [C.pst, C.zero]) (by omega) (by omega)).mono ?_
    rintro e A' ⟨rfl, h1, h2⟩
    exact .inl ⟨rfl, h1, hJ _ _ _ (h2.mono fun k _ hk => by omega) hj, h2.mono fun k _ hk => by omega⟩
  · have hb := C.pst_begun hd
    rw [hb] at h
    have htake : tks.take d.length = d := by rw [htk]; simp
    obtain ⟨frm, hg⟩ := C.grp_pst tks d.length (by cases d with | nil => exact absurd rfl hd | cons => simp) (by omega)
    rw [htake] at hg
    have g1 := hg.frm_
    have g2 := hg.to_
    have g3 := hg.lt
    have g4 := hg.len
    have g5 := hg.le
    have hpl : C.pl tks d.length = U.wsum d := by unfold C.pl; rw [htake]
    rw [hpl] at g4
    by_cases hk : C.takes (C.pst d).2.1 t.1 = true
    · refine (sign_take A B l _ _ _ t.2 h hk (by omega) (by omega) (by omega) (by omega) (by omega)).mono ?_
      rintro e A' ⟨rfl, h1, h2⟩
      rw [C.pst_snoc _ _ hd]
      simp only [C.step, if_pos hk, List.append_nil]
      exact .inl ⟨trivial, h1, hJ _ _ _ (h2.mono fun k _ hk => by omega) hj, h2.mono fun k _ hk => by omega⟩
    · rw [Bool.not_eq_true] at hk
      obtain ⟨post, hpost⟩ := C.clus_front d t rest hd hk
      rw [← htk] at hpost
      refine (sign_new A B l _ _ _ t.2 h hk (by omega) (by omega) (by omega) (by omega) g4 (fun k => k = Bn ∨ (B ≤ k ∧ k < B + 6)) (fun k a b => .inr ⟨a, b⟩) (J ((C.pst d).1 ++ [(C.pst d).2.1.c])) (Jx ((C.pst d).1 ++ [(C.pst d).2.1.c])) (fun A B' hf hj => hJ _ _ _ hf hj)
        (fun m => hY _ _ post (A.drewN m) hpost hA (hJ _ _ _ ((Fr.refl _ _).drewN m) hj))).mono ?_
      rintro e A' (⟨rfl, h1, h2, h3⟩ | ⟨rfl, h1⟩)
      · rw [C.pst_snoc _ _ hd]
        have hk' : ¬ C.takes (C.pst d).2.1 t.1 = true := by rw [hk]; simp
        simp only [C.step, if_neg hk']
        exact .inl ⟨trivial, h1, h2, h3.mono fun k _ hk => by omega⟩
      · exact .inr ⟨rfl, _, ⟨post, by rw [hpost]; simp⟩, by simp, h1⟩

/-- What holds at the head of the iterator's loop, behind the signs d. -/
structure Ls (s : ByteArray) (B l Bn : Nat) (J : List C.Cl → World → Prop) (pos : Nat) (d : List U.Tk) (A : World) : Prop where
  le : pos ≤ s.size
  size : B + 6 ≤ A.heap.size
  it : A.heap[B + 5]? = some (.stringIter s pos)
  str : A.cell? ⟨Bn, 0, none⟩ = some (.string s)
  toks : U.toks s.data.toList = d ++ U.toks (s.data.toList.drop pos)
  pos : pos = U.wsum d
  st0 : d = [] → St A B l C.zero 0 0 false ∧ J [] A
  st : ∀ e t, d = e ++ [t] → St A B l (C.pst e).2.1 (U.wsum e) t.1 (C.pst e).2.2 ∧ J (C.pst e).1 A
theorem St.here {A : World} {B l : Nat} {g : C.G} {a r : Nat} {b : Bool} (h : St A B l g a r b) (a' r' : Nat) : St ((A.setCell ⟨B + 2, 0, none⟩ (.int .i64 (a' : Int))).setCell ⟨B + 3, 0, none⟩ (.int .i32 (r' : Int))) B l g a' r' b :=
  ⟨(h.y.other _ _ (by omega)).other _ _ (by omega), (h.g.other _ _ (by omega)).other _ _ (by omega), (h.a.set 0 _).other _ _ (by omega), (h.r.other _ _ (by omega)).set 0 _, (h.b.other _ _ (by omega)).other _ _ (by omega)⟩

theorem Ls.next {s : ByteArray} {B l Bn : Nat} {J : List C.Cl → World → Prop} {pos a r : Nat} {d : List U.Tk} {c wd : Nat} {A : World} {b : Bool} (hS : St A B l (C.pst d).2.1 a r b) (hb : b = (C.pst d).2.2) (hj : J (C.pst d).1 A)
    (hsz : B + 6 ≤ A.heap.size) (hit : A.heap[B + 5]? = some (.stringIter s (pos + wd))) (hstr : A.cell? ⟨Bn, 0, none⟩ = some (.string s)) (ht : U.toks s.data.toList = (d ++ [(c, wd)]) ++ U.toks (s.data.toList.drop (pos + wd)))
    (hp : pos = U.wsum d) (hle : pos + wd ≤ s.size) (hBn : Bn < B) (hJ : ∀ pre A B', Fr (fun k => k < B ∨ B + 6 ≤ k) A B' → J pre A → J pre B') :
    Ls s B l Bn J (pos + wd) (d ++ [(c, wd)]) ((A.setCell ⟨B + 2, 0, none⟩ (.int .i64 (pos : Int))).setCell ⟨B + 3, 0, none⟩ (.int .i32 (c : Int))) := by
  have F : Fr (fun k => k ≠ B + 2 ∧ k ≠ B + 3) A ((A.setCell ⟨B + 2, 0, none⟩ (.int .i64 (pos : Int))).setCell ⟨B + 3, 0, none⟩ (.int .i32 (c : Int))) :=
    ((Fr.refl _ _).setCell _ _ (fun _ h => h.1 rfl)).setCell _ _ (fun _ h => h.2 rfl)
  refine ⟨hle, Nat.le_trans hsz F.size, (F.block _ (by omega) ⟨by omega, by omega⟩).trans hit, F.cell hstr ⟨by simp; omega, by simp; omega⟩, ht, by rw [C.wsum_app, hp]; simp [U.wsum], fun h => by simp at h, fun e t h => ?_⟩
  obtain ⟨rfl, h2⟩ := List.append_inj' h rfl
  cases h2
  exact ⟨by rw [← hp, ← hb]; exact hS.here _ _, hJ _ _ _ (F.mono fun k _ hk => by omega) hj⟩
theorem At.alloc {W : World} {B : Nat} {cs : Array Value} (h : At W B cs) (o : Obj) : At (W.alloc o) B cs := h.fr (S := fun _ => True) ((Fr.refl _ _).alloc _) trivial
theorem At.new (W : World) (cs : Array Value) (t : TypeId) : At (W.alloc (.cells cs t)) W.heap.size cs := ⟨t, World.alloc_heap_new W _⟩
theorem st_new (W : World) (l : Nat) (t1 t2 t3 t4 t5 : TypeId) (o : Obj) : St ((((((W.alloc (.cells #[.func (.yield l) #[] #[]] t1)).alloc (.cells (cellsG C.zero) t2)).alloc (.cells #[.int .i64 ((0 : Nat) : Int)] t3)).alloc (.cells #[.int .i32 ((0 : Nat) : Int)] t4)).alloc (.cells #[.bool false] t5)).alloc o) W.heap.size l C.zero 0 0 false := by
  refine ⟨((((At.new W _ _).alloc _).alloc _).alloc _).alloc _ |>.alloc _, ?_, ?_, ?_, ?_⟩
  · have := At.new (W.alloc (.cells #[.func (.yield l) #[] #[]] t1)) (cellsG C.zero) t2
    rw [World.size_alloc] at this
    exact (((this.alloc _).alloc _).alloc _).alloc _
  · have := At.new ((W.alloc (.cells #[.func (.yield l) #[] #[]] t1)).alloc (.cells (cellsG C.zero) t2)) #[.int .i64 ((0 : Nat) : Int)] t3
    rw [World.size_alloc, World.size_alloc] at this
    exact ((this.alloc _).alloc _).alloc _
  · have := At.new (((W.alloc (.cells #[.func (.yield l) #[] #[]] t1)).alloc (.cells (cellsG C.zero) t2)).alloc (.cells #[.int .i64 ((0 : Nat) : Int)] t3)) #[.int .i32 ((0 : Nat) : Int)] t4
    rw [World.size_alloc, World.size_alloc, World.size_alloc] at this
    exact (this.alloc _).alloc _
  · have := At.new ((((W.alloc (.cells #[.func (.yield l) #[] #[]] t1)).alloc (.cells (cellsG C.zero) t2)).alloc (.cells #[.int .i64 ((0 : Nat) : Int)] t3)).alloc (.cells #[.int .i32 ((0 : Nat) : Int)] t4)) #[.bool false] t5
    rw [World.size_alloc, World.size_alloc, World.size_alloc, World.size_alloc] at this
    exact this.alloc _

theorem iter_new (W : World) (s : ByteArray) : (W.iter s 0).heap[W.heap.size]? = some (.stringIter s 0) := World.iter_heap _ _ _

set_option maxRecDepth 1000000 in
set_option maxHeartbeats 4000000 in
theorem clusters_in (s : ByteArray) (hs : s.size ≤ 4194304) (Bn : Nat) (w : World) (hB : w.cell? ⟨Bn, 0, none⟩ = some (.string s)) :
    SeqC Try.prog 68 #[.pointer (some ⟨Bn, 0, none⟩)] (fun x => #[encC x]) (C.clus (U.toks s.data.toList)) 6 (fun k => k = Bn) w := by
  intro l J Jx W hW hsz hJ hJx hY h0
  have hBW : W.cell? ⟨Bn, 0, none⟩ = some (.string s) := hW.cell hB rfl
  have hBlt : Bn < W.heap.size := World.block_lt_of_cell? W _ hBW
  refine (callsIn_wide (n := 0)).1 (callsIn_of_wp Try.func68 rfl trivial ?_ rfl)
  simp only [Try.ntmps68, List.size_toArray, List.length_cons, List.length_nil, Nat.reduceAdd, Nat.reduceSub, Array.replicate_succ, Array.replicate_zero, List.push_toArray, List.append_toArray, List.nil_append, List.cons_append]
  have hc5 : ∀ o1 o2 o3 o4 o5 : Obj, (((((W.alloc o1).alloc o2).alloc o3).alloc o4).alloc o5).cell? ⟨Bn, 0, none⟩ = some (.string s) := fun o1 o2 o3 o4 o5 => by
    rw [← hBW]
    exact World.cell?_of_block ((Below.heap_alloc _ _ _ (by simp; omega)).trans ((Below.heap_alloc _ _ _ (by simp; omega)).trans ((Below.heap_alloc _ _ _ (by simp; omega)).trans ((Below.heap_alloc _ _ _ (by simp; omega)).trans (Below.heap_alloc _ _ _ hBlt)))))
  have HH := Lib.hid (And.intro h0 (And.intro hJ (And.intro hJx hY)))
  clear h0 hJ hJx hY
  have hlw := U.wsum_toks s.data.toList
  rw [← U.size_eq] at hlw
  have hll := toks_len (s := s)
  gi_wp2
  gi_loopw [8] (fun p wr => ∃ pos d, Ls s W.heap.size l Bn J pos d wr) (fun _ wr => s.size - wr.iterPos (W.heap.size + 5))
  case atStart =>
    obtain ⟨h0, hJ, hJx, hY⟩ := HH.out
    refine ⟨0, [], Nat.zero_le _, by simp [World.iter], ?_, ?_, by simp, rfl, fun _ => ⟨st_new W l _ _ _ _ _ _, hJ _ _ _ ((((((((Fr.refl _ W).alloc _).alloc _).alloc _).alloc _).alloc _).alloc _)) h0⟩, fun e t h => ?_⟩
    · have := World.iter_heap (((((W.alloc (.cells #[.func (.yield l) #[] #[]] 94)).alloc (.cells (cellsG C.zero) 96)).alloc (.cells #[.int .i64 0] 3)).alloc (.cells #[.int .i32 0] 21)).alloc (.cells #[.bool false] 4)) s 0
      rw [World.size_alloc, World.size_alloc, World.size_alloc, World.size_alloc, World.size_alloc] at this
      exact this
    · rw [← hc5]
      exact World.cell?_of_block (Below.heap_alloc _ _ _ (by simp; omega))
    · simp at h
  case round =>
    obtain ⟨pos, d, hL⟩ := hrel
    have hpos : wr.iterPos (W.heap.size + 5) = pos := by simp [World.iterPos, hL.it]
    by_cases hp : pos < s.size
    · have hd := decode_facts hp
      have hts := toks_at hp
      have hnx : ∀ ty, (Instr.next (.pointer (some ⟨W.heap.size + 1 + 1 + 1 + 1 + 1, 0, none⟩)) true ty).run Try.prog wr = _ := fun ty => run_next_any_at wr (W.heap.size + 5) s pos ty hL.it hp
      obtain ⟨c, wd, hdec⟩ : ∃ c wd, Utf8.decode s pos = (c, wd) := ⟨_, _, rfl⟩
      rw [hdec] at hd hts hnx
      simp only at hd hts hnx
      have hnt : U.toks s.data.toList = (d ++ [(c, wd)]) ++ U.toks (s.data.toList.drop (pos + wd)) := by rw [hL.toks, hts]; simp
      have hit1 := iterAt_heap wr (W.heap.size + 5) s pos (pos + wd) hL.it
      have F1 : Fr (fun k => k ≠ W.heap.size + 5) wr (wr.iterAt (W.heap.size + 5) s (pos + wd)) := (Fr.refl _ _).iterAt _ _ _ (fun _ h => h rfl)
      obtain ⟨A1, hA1⟩ : ∃ A1, wr.iterAt (W.heap.size + 5) s (pos + wd) = A1 := ⟨_, rfl⟩
      rw [show wr.iterAt (W.heap.size + 5) s (pos + wd) = A1 from hA1] at hnx hit1 F1
      clear hA1 hdec
      have hpw := hL.pos
      have hsize := hL.size
      obtain ⟨h0, hJ, hJx, hY⟩ := HH.out
      have hsz1 : W.heap.size + 6 ≤ A1.heap.size := Nat.le_trans hsize F1.size
      have hstr1 : A1.cell? ⟨Bn, 0, none⟩ = some (.string s) := F1.cell hL.str (by simp; omega)
      rcases List.eq_nil_or_concat d with rfl | ⟨e, t, het⟩
      · obtain ⟨hS, hj⟩ := hL.st0 rfl
        have hS1 : St A1 W.heap.size l C.zero 0 0 false := hS.fr F1 (fun k a b => by omega)
        have hj1 : J [] A1 := hJ _ _ _ (F1.mono fun k _ h => by omega) hj
        obtain rfl : pos = 0 := hpw
        have hN := Ls.next (pos := 0) (d := []) hS1 rfl hj1 hsz1 hit1 hstr1 hnt rfl hd.2.2.1 hBlt hJ
        have f2 : A1.frozen? ⟨W.heap.size + 1 + 1, 0, none⟩ = false := hS1.a.frozen 0 _ rfl
        have f3 : A1.frozen? ⟨W.heap.size + 1 + 1 + 1, 0, none⟩ = false := hS1.r.frozen 0 _ rfl
        have c2 : A1.cell? ⟨W.heap.size + 1 + 1, 0, none⟩ = some (.int .i64 0) := hS1.a.cell 0 _ rfl
        have c3 : A1.cell? ⟨W.heap.size + 1 + 1 + 1, 0, none⟩ = some (.int .i32 0) := hS1.r.cell 0 _ rfl
        have HN := Lib.hid hN
        clear hS hj hS1 hj1 hN h0 hJ hJx hY hL hts hnt hit1 hstr1
        gi_wp2
        refine ⟨fun f h => (by cases h), ?_⟩
        gi_wp2
        go_roundw
        case rel => exact ⟨_, _, HN.out⟩
        case measure =>
          have := iterPos_of HN.out.it
          rw [hpos]
          refine Nat.lt_of_le_of_lt (Nat.le_of_eq (congrArg (s.size - ·) this)) ?_
          omega
      · rw [List.concat_eq_append] at het
        subst het
        obtain ⟨hS, hj⟩ := hL.st e t rfl
        have hS1 := hS.fr F1 (fun k a b => by omega)
        have hj1 : J (C.pst e).1 A1 := hJ _ _ _ (F1.mono fun k _ h => by omega) hj
        have htk : U.toks s.data.toList = e ++ t :: ((c, wd) :: U.toks (s.data.toList.drop (pos + wd))) := by rw [hnt]; simp
        have hpe : U.wsum e + t.2 = pos := by rw [hpw, C.wsum_app]; simp [U.wsum]
        have htk' := htk
        have SA := sign_any _ (by omega) (by omega) A1 W.heap.size l Bn hBlt e t _ htk hS1 J Jx hJ (fun pre x post W1 a b c => (hY pre x post W1 a b c)) hsz1 hj1
        rw [hpe] at SA
        unfold argsN at SA
        have SA := Lib.hid SA
        have HL := Lib.hid (And.intro hnt (And.intro hit1 (And.intro hstr1 hL)))
        have HJ := Lib.hid hJ
        have ht1 : 1 ≤ t.2 := (U.toks_fact s.data.toList t (by rw [htk']; simp)).1
        have hpp : 0 < pos := by omega
        clear hS hj hS1 hj1 h0 hJ hJx hY hL hts hnt hit1 hstr1 htk htk' hpw hpe
        gi_wp2
        refine ⟨trivial, rfl, ?_⟩
        gi_at_call 69
        refine SA.out.mono ?_
        rintro e2 A2 (⟨rfl, hS2, hj2, F2⟩ | ⟨rfl, pre, p1, p2, p3⟩)
        · obtain ⟨hnt, hit1, hstr1, hL⟩ := HL.out
          have hb2 : true = (C.pst (e ++ [t])).2.2 := (C.pst_begun (by simp)).symm
          have hN := Ls.next hS2 hb2 hj2 (Nat.le_trans hsz1 F2.size) ((F2.block _ (by omega) (.inr rfl)).trans hit1) (F2.cell hstr1 (.inl rfl)) hnt hL.pos hd.2.2.1 hBlt HJ.out
          have f2 : A2.frozen? ⟨W.heap.size + 1 + 1, 0, none⟩ = false := hS2.a.frozen 0 _ rfl
          have f3 : A2.frozen? ⟨W.heap.size + 1 + 1 + 1, 0, none⟩ = false := hS2.r.frozen 0 _ rfl
          have c2 : A2.cell? ⟨W.heap.size + 1 + 1, 0, none⟩ = some (.int .i64 (U.wsum e : Int)) := hS2.a.cell 0 _ rfl
          have c3 : A2.cell? ⟨W.heap.size + 1 + 1 + 1, 0, none⟩ = some (.int .i32 (t.1 : Int)) := hS2.r.cell 0 _ rfl
          have HN := Lib.hid hN
          clear hS2 hj2 hN hnt hit1 hstr1 hL hb2
          gi_wp2
          go_roundw
          case rel => exact ⟨_, _, HN.out⟩
          case measure =>
            have := iterPos_of HN.out.it
            rw [hpos]
            refine Nat.lt_of_le_of_lt (Nat.le_of_eq (congrArg (s.size - ·) this)) ?_
            omega
        · gi_wp2
          refine bodyPost_ret (results_none rfl _ _ _) rfl ?_
          exact ⟨⟨_, rfl⟩, .inr ⟨pre, p1, p2, p3⟩⟩
    · have hnx : ∀ ty, (Instr.next (.pointer (some ⟨W.heap.size + 1 + 1 + 1 + 1 + 1, 0, none⟩)) true ty).run Try.prog wr = _ := fun ty => run_next_end_at wr (W.heap.size + 5) s pos ty hL.it hp
      have htd := hL.toks
      rw [toks_end hp, List.append_nil] at htd
      have hps : pos = s.size := by have := hL.le; omega
      have hpw := hL.pos
      have hstr := hL.str
      obtain ⟨h0, hJ, hJx, hY⟩ := HH.out
      rcases List.eq_nil_or_concat d with rfl | ⟨e, t, het⟩
      · obtain ⟨hS, hj⟩ := hL.st0 rfl
        obtain rfl : s = ⟨#[]⟩ := by
          have := U.toks_eq_nil htd
          cases s with | mk a => cases a with | mk l => simp at this; subst this; rfl
        have HX := Lib.hid hj
        clear h0 hJ hJx hY hj hS htd hL hpw HH
        gi_wp2
        refine ⟨fun f h => (by cases h), ?_⟩
        gi_wp2
        go_end0
        exact ⟨⟨_, rfl⟩, .inl HX.out⟩
      · rw [List.concat_eq_append] at het
        subst het
        obtain ⟨hS, hj⟩ := hL.st e t rfl
        have hpe : U.wsum e + t.2 = s.size := by rw [← hps, hpw, C.wsum_app]; simp [U.wsum]
        have ht1 : 1 ≤ t.2 := (U.toks_fact s.data.toList t (by rw [htd]; simp)).1
        have hne : s.toList.isEmpty = false := by
          rw [Lib.toList_data]
          have := U.size_eq s
          cases hq : s.data.toList with
          | nil => rw [hq, List.length_nil] at this; omega
          | cons => rfl
        have SA := sign_any _ (by omega) (by omega) wr W.heap.size l Bn hBlt e t [] htd hS J Jx hJ (fun pre x post W1 a b c => (hY pre x post W1 a b c)) hL.size hj
        rw [hpe] at SA
        unfold argsN at SA
        have SA := Lib.hid SA
        have HL := Lib.hid (And.intro htd (And.intro hL (And.intro hJ hY)))
        clear hS hj h0 hJ hJx hY hL htd HH hpw
        gi_wp2
        refine ⟨trivial, rfl, ?_⟩
        gi_at_call 69
        refine SA.out.mono ?_
        rintro e2 A2 (⟨rfl, hS2, hj2, F2⟩ | ⟨rfl, pre, p1, p2, p3⟩)
        · obtain ⟨htd, hL, hJ, hY⟩ := HL.out
          have cy : A2.cell? ⟨W.heap.size, 0, none⟩ = some (.func (.yield l) #[] #[]) := hS2.y.cell 0 _ rfl
          have c0 : A2.cell? ⟨W.heap.size + 1, 0, none⟩ = some (.int .i64 ((C.pst (e ++ [t])).2.1.c.at_ : Int)) := hS2.g.cell 0 _ rfl
          have c1 : A2.cell? ⟨W.heap.size + 1, 1, none⟩ = some (.int .i64 ((C.pst (e ++ [t])).2.1.c.len : Int)) := hS2.g.cell 1 _ rfl
          have c2 : A2.cell? ⟨W.heap.size + 1, 2, none⟩ = some (.int .i64 ((C.pst (e ++ [t])).2.1.c.frm : Int)) := hS2.g.cell 2 _ rfl
          have c3 : A2.cell? ⟨W.heap.size + 1, 3, none⟩ = some (.int .i64 ((C.pst (e ++ [t])).2.1.c.to_ : Int)) := hS2.g.cell 3 _ rfl
          have c4 : A2.cell? ⟨W.heap.size + 1, 4, none⟩ = some (.int .i64 ((C.pst (e ++ [t])).2.1.c.cells : Int)) := hS2.g.cell 4 _ rfl
          have hxs : C.clus (U.toks s.data.toList) = (C.pst (e ++ [t])).1 ++ (C.pst (e ++ [t])).2.1.c :: [] := by rw [htd]; exact C.clus_pst (by simp)
          obtain ⟨fn, tmps, assign, body, hy, hR⟩ := hY _ _ [] A2 hxs (Nat.le_trans hL.size F2.size) hj2
          unfold encC at hy
          have HXS := Lib.hid hxs
          clear hS2 hj2 htd hL hJ hY hxs
          gi_wp2
          refine ⟨rfl, hR.mono ?_⟩
          rintro e3 A3 (⟨rfl, hJ3, hk3⟩ | ⟨rfl, hJx3⟩)
          · gi_wp2
            go_end0
            exact ⟨⟨_, rfl⟩, .inl (HXS.out.symm ▸ hJ3)⟩
          · gi_wp2
            go_end0
            exact ⟨⟨_, rfl⟩, .inr ⟨_, HXS.out.symm ▸ List.prefix_rfl, by simp, hJx3⟩⟩
        · gi_wp2
          go_end0
          exact ⟨⟨_, rfl⟩, .inr ⟨pre, p1, p2, p3⟩⟩
end Go.Proofs.Ytclblidfamabdaa
