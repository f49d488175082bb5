/-
  label.Split and the reference's, walked.
-/
import Derived.Test.YtkhiogcdamjocaaLab2
import Derived.Test.YtkhiogcdamjocaaDomC
namespace Go.Proofs.Ytkhiogcdamjocaa
open Go.RowKit

/-- two lists are handed back -/
def RetS (A B : List Rg) (w : World) (e : Ending) (w' : World) : Prop :=
  ∃ a1 c1 a2 c2, e = .returned (.tuple #[.slice a1 A.length c1, .slice a2 B.length c2]) ∧ RgAt w' (.slice a1 A.length c1) A ∧ RgAt w' (.slice a2 B.length c2) B ∧ Below w.heap.size w w'
theorem rgAt_one (w : World) (a b : Int) (T : TypeId) : RgAt (w.alloc (.cells #[.int .i64 a, .int .i64 b] T)) (.slice (some ⟨w.heap.size, 0, none⟩) 1 1) [(a, b)] := rgAt_lit2 w (a, b) T

theorem cell_al2 {w : World} {p : Addr} {v : Value} (h : w.cell? p = some v) : ∀ o, (w.alloc o).cell? p = some v := fun o => Lib.cell?_alloc_some o h
theorem rgAt_two (w : World) (o : Obj) (a b : Int) (T : TypeId) : RgAt ((w.alloc o).alloc (.cells #[.int .i64 a, .int .i64 b] T)) (.slice (some ⟨w.heap.size + 1, 0, none⟩) 1 1) [(a, b)] := by
  have h := rgAt_one (w.alloc o) a b T
  rwa [show (w.alloc o).heap.size = w.heap.size + 1 by simp] at h

set_option maxRecDepth 100000 in
set_option maxHeartbeats 3200000 in
theorem split_c (vd vw : Value) (sel ord br : Int) (d : List Rg) (w : World) (hd : RgAt w vd d) (hl : d.length ≤ 4096) (ho : ord = 0 ∨ ord = 1) (hb : br = 0 ∨ br = 1) (aw : Option Addr) (nw cw : Nat) (hvw : vw = .slice aw nw cw) :
    Calls Try.prog 22 #[vd, .agg #[.int .i64 sel, .int .i64 ord, .int .i64 br, vw]] w (RetS (splitL d ord br).1 (splitL d ord br).2 w) := by
  subst hvw
  obtain ⟨ao, cap, rfl, _⟩ := hd.shape
  have HZ := Lib.hid (boxZ w (.int .i64 sel) (.int .i64 ord) (.int .i64 br) (.slice aw nw cw) 45)
  have HB := Lib.hid (BoxL.mk' w #[.int .i64 sel, .int .i64 ord, .int .i64 br, .slice aw nw cw] 45)
  have HD := Lib.hid hd
  have CS := Lib.hid (size_c _ d _ (hd.below HZ.out) hl)
  by_cases h2 : sizeL (norm d) < 2
  · have hs : splitL d ord br = ([], []) := by unfold splitL; rw [if_pos h2]
    rw [hs]
    clear hs hd
    generalize sizeL (norm d) = sz at *
    go_enter Try.func22, Try.ntmps22
    go_wp2_with (go_at_call 42; (with_reducible refine CS.out.mono ?_); rintro e W1 ⟨rfl, bb⟩; have B1 := Lib.hid (HZ.out.trans (bb.mono HZ.out.size)); clear bb)
    go_ret2
    exact ⟨none, 0, none, 0, rfl, RgAt.nil, RgAt.nil, B1.out⟩
  · obtain ⟨b1, b2, b3, b4⟩ := ends_bnd d
    have hle := two_ends d h2
    have CE : Hid (∀ W, Below w.heap.size w W → Calls Try.prog 47 #[.slice ao d.length cap] W fun e w' => e = .returned (.tuple #[.int .i64 (endsL (norm d)).1, .int .i64 (endsL (norm d)).2.1, .bool (endsL (norm d)).2.2]) ∧ Below W.heap.size W w') := fun W h => ends_c _ d W (hd.below h) hl
    obtain ⟨cc, hcc⟩ : ∃ cc, cc = cutAt ord br (endsL (norm d)).1 (endsL (norm d)).2.1 := ⟨_, rfl⟩
    have CM : Hid (∀ vb W, Below w.heap.size w W → RgAt W vb [((endsL (norm d)).1, cc)] → Calls Try.prog 48 #[.slice ao d.length cap, vb] W (RetR (meetL d [((endsL (norm d)).1, cc)]) W)) := fun vb W h hb => meet_c _ vb d _ W (hd.below h) hb hl (by simp)
    have CN : Hid (∀ vb W, Below w.heap.size w W → RgAt W vb [((endsL (norm d)).1, cc)] → Calls Try.prog 49 #[.slice ao d.length cap, vb] W (RetR (minusL d [((endsL (norm d)).1, cc)]) W)) := fun vb W h hb => minus_c _ vb d _ W (hd.below h) hb hl (by simp)
    have hs : splitL d ord br = if ord = 1 then (minusL d [((endsL (norm d)).1, cc)], meetL d [((endsL (norm d)).1, cc)]) else (meetL d [((endsL (norm d)).1, cc)], minusL d [((endsL (norm d)).1, cc)]) := by
      unfold splitL; rw [if_neg h2, hcc]
    rw [hs]
    clear hs hd HD
    unfold cutAt at hcc
    generalize (endsL (norm d)).2.2 = ok at *
    generalize (endsL (norm d)).1 = lo at *
    generalize (endsL (norm d)).2.1 = hi at *
    generalize meetL d [(lo, cc)] = ME at *
    generalize minusL d [(lo, cc)] = MI at *
    generalize sizeL (norm d) = sz at *
    rcases hb with rfl | rfl
    · rcases ho with rfl | rfl
      · simp only [show ((0 : Int) = 1) = False by simp, if_true, if_false] at hcc ⊢
        subst hcc
        go_enter Try.func22, Try.ntmps22
        go_wp2_with (first
          | (go_at_call 42; (with_reducible refine CS.out.mono ?_); rintro e W1 ⟨rfl, bb⟩; have B1 := Lib.hid (HZ.out.trans (bb.mono HZ.out.size)); have Q1 := Lib.hid bb; obtain ⟨l1, _⟩ := (HB.out.below bb (by simp)).get 1 rfl; obtain ⟨l2, _⟩ := (HB.out.below bb (by simp)).get 2 rfl; clear bb)
          | (go_at_call 47; (with_reducible refine (CE.out _ B1.out).mono ?_); rintro e W2 ⟨rfl, bb⟩; have B2 := Lib.hid (B1.out.trans (bb.mono B1.out.size)); have Q2 := Lib.hid (Q1.out.trans (bb.mono Q1.out.size)); obtain ⟨m1, _⟩ := (HB.out.below Q2.out (by simp)).get 1 rfl; obtain ⟨m2, _⟩ := (HB.out.below Q2.out (by simp)).get 2 rfl; clear bb)
          | (go_at_call 48; (with_reducible refine (CM.out _ _ (B2.out.alloc B2.out.size _) (rgAt_one W2 _ _ _)).mono ?_); rintro e W3 ⟨a3, c3, rfl, r3, bb⟩; have B3 := Lib.hid ((B2.out.alloc B2.out.size _).trans (bb.mono (B2.out.alloc B2.out.size _).size)); have R3 := Lib.hid r3; have K3 := Lib.hid ((rgAt_one W2 _ _ _).below bb); have Q3 := Lib.hid ((Q2.out.alloc Q2.out.size _).trans (bb.mono (Q2.out.alloc Q2.out.size _).size)); clear bb r3)
          | (go_at_call 49; (with_reducible refine (CN.out _ _ B3.out K3.out).mono ?_); rintro e W4 ⟨a4, c4, rfl, r4, bb⟩; have B4 := Lib.hid (B3.out.trans (bb.mono B3.out.size)); have R4 := Lib.hid r4; have K4 := Lib.hid (R3.out.below bb); have Q4 := Lib.hid (Q3.out.trans (bb.mono Q3.out.size)); obtain ⟨n1, _⟩ := (HB.out.below Q4.out (by simp)).get 1 rfl; clear bb r4))
        go_ret2
        exact ⟨_, _, _, _, rfl, K4.out, R4.out, B4.out⟩
      · simp only [show ((0 : Int) = 1) = False by simp, if_true, if_false] at hcc ⊢
        subst hcc
        go_enter Try.func22, Try.ntmps22
        go_wp2_with (first
          | (go_at_call 42; (with_reducible refine CS.out.mono ?_); rintro e W1 ⟨rfl, bb⟩; have B1 := Lib.hid (HZ.out.trans (bb.mono HZ.out.size)); have Q1 := Lib.hid bb; obtain ⟨l1, _⟩ := (HB.out.below bb (by simp)).get 1 rfl; obtain ⟨l2, _⟩ := (HB.out.below bb (by simp)).get 2 rfl; clear bb)
          | (go_at_call 47; (with_reducible refine (CE.out _ B1.out).mono ?_); rintro e W2 ⟨rfl, bb⟩; have B2 := Lib.hid (B1.out.trans (bb.mono B1.out.size)); have Q2 := Lib.hid (Q1.out.trans (bb.mono Q1.out.size)); obtain ⟨m1, _⟩ := (HB.out.below Q2.out (by simp)).get 1 rfl; obtain ⟨m2, _⟩ := (HB.out.below Q2.out (by simp)).get 2 rfl; clear bb)
          | (go_at_call 48; (with_reducible refine (CM.out _ _ (B2.out.alloc B2.out.size _) (rgAt_one W2 _ _ _)).mono ?_); rintro e W3 ⟨a3, c3, rfl, r3, bb⟩; have B3 := Lib.hid ((B2.out.alloc B2.out.size _).trans (bb.mono (B2.out.alloc B2.out.size _).size)); have R3 := Lib.hid r3; have K3 := Lib.hid ((rgAt_one W2 _ _ _).below bb); have Q3 := Lib.hid ((Q2.out.alloc Q2.out.size _).trans (bb.mono (Q2.out.alloc Q2.out.size _).size)); clear bb r3)
          | (go_at_call 49; (with_reducible refine (CN.out _ _ B3.out K3.out).mono ?_); rintro e W4 ⟨a4, c4, rfl, r4, bb⟩; have B4 := Lib.hid (B3.out.trans (bb.mono B3.out.size)); have R4 := Lib.hid r4; have K4 := Lib.hid (R3.out.below bb); have Q4 := Lib.hid (Q3.out.trans (bb.mono Q3.out.size)); obtain ⟨n1, _⟩ := (HB.out.below Q4.out (by simp)).get 1 rfl; clear bb r4))
        go_ret2
        exact ⟨_, _, _, _, rfl, R4.out, K4.out, B4.out⟩
    · rcases ho with rfl | rfl
      · simp only [show ((0 : Int) = 1) = False by simp, if_true, if_false] at hcc ⊢
        subst hcc
        go_enter Try.func22, Try.ntmps22
        go_wp2_with (first
          | (go_at_call 42; (with_reducible refine CS.out.mono ?_); rintro e W1 ⟨rfl, bb⟩; have B1 := Lib.hid (HZ.out.trans (bb.mono HZ.out.size)); have Q1 := Lib.hid bb; obtain ⟨l1, _⟩ := (HB.out.below bb (by simp)).get 1 rfl; obtain ⟨l2, _⟩ := (HB.out.below bb (by simp)).get 2 rfl; clear bb)
          | (go_at_call 47; (with_reducible refine (CE.out _ B1.out).mono ?_); rintro e W2 ⟨rfl, bb⟩; have B2 := Lib.hid (B1.out.trans (bb.mono B1.out.size)); have Q2 := Lib.hid (Q1.out.trans (bb.mono Q1.out.size)); obtain ⟨m1, _⟩ := (HB.out.below Q2.out (by simp)).get 1 rfl; obtain ⟨m2, _⟩ := (HB.out.below Q2.out (by simp)).get 2 rfl; clear bb)
          | (go_at_call 48; (with_reducible refine (CM.out _ _ (B2.out.alloc B2.out.size _) (rgAt_one W2 _ _ _)).mono ?_); rintro e W3 ⟨a3, c3, rfl, r3, bb⟩; have B3 := Lib.hid ((B2.out.alloc B2.out.size _).trans (bb.mono (B2.out.alloc B2.out.size _).size)); have R3 := Lib.hid r3; have K3 := Lib.hid ((rgAt_one W2 _ _ _).below bb); have Q3 := Lib.hid ((Q2.out.alloc Q2.out.size _).trans (bb.mono (Q2.out.alloc Q2.out.size _).size)); clear bb r3)
          | (go_at_call 49; (with_reducible refine (CN.out _ _ B3.out K3.out).mono ?_); rintro e W4 ⟨a4, c4, rfl, r4, bb⟩; have B4 := Lib.hid (B3.out.trans (bb.mono B3.out.size)); have R4 := Lib.hid r4; have K4 := Lib.hid (R3.out.below bb); have Q4 := Lib.hid (Q3.out.trans (bb.mono Q3.out.size)); obtain ⟨n1, _⟩ := (HB.out.below Q4.out (by simp)).get 1 rfl; clear bb r4))
        go_ret2
        exact ⟨_, _, _, _, rfl, K4.out, R4.out, B4.out⟩
      · simp only [show ((0 : Int) = 1) = False by simp, if_true, if_false] at hcc ⊢
        subst hcc
        go_enter Try.func22, Try.ntmps22
        go_wp2_with (first
          | (go_at_call 42; (with_reducible refine CS.out.mono ?_); rintro e W1 ⟨rfl, bb⟩; have B1 := Lib.hid (HZ.out.trans (bb.mono HZ.out.size)); have Q1 := Lib.hid bb; obtain ⟨l1, _⟩ := (HB.out.below bb (by simp)).get 1 rfl; obtain ⟨l2, _⟩ := (HB.out.below bb (by simp)).get 2 rfl; clear bb)
          | (go_at_call 47; (with_reducible refine (CE.out _ B1.out).mono ?_); rintro e W2 ⟨rfl, bb⟩; have B2 := Lib.hid (B1.out.trans (bb.mono B1.out.size)); have Q2 := Lib.hid (Q1.out.trans (bb.mono Q1.out.size)); obtain ⟨m1, _⟩ := (HB.out.below Q2.out (by simp)).get 1 rfl; obtain ⟨m2, _⟩ := (HB.out.below Q2.out (by simp)).get 2 rfl; clear bb)
          | (go_at_call 48; (with_reducible refine (CM.out _ _ (B2.out.alloc B2.out.size _) (rgAt_one W2 _ _ _)).mono ?_); rintro e W3 ⟨a3, c3, rfl, r3, bb⟩; have B3 := Lib.hid ((B2.out.alloc B2.out.size _).trans (bb.mono (B2.out.alloc B2.out.size _).size)); have R3 := Lib.hid r3; have K3 := Lib.hid ((rgAt_one W2 _ _ _).below bb); have Q3 := Lib.hid ((Q2.out.alloc Q2.out.size _).trans (bb.mono (Q2.out.alloc Q2.out.size _).size)); clear bb r3)
          | (go_at_call 49; (with_reducible refine (CN.out _ _ B3.out K3.out).mono ?_); rintro e W4 ⟨a4, c4, rfl, r4, bb⟩; have B4 := Lib.hid (B3.out.trans (bb.mono B3.out.size)); have R4 := Lib.hid r4; have K4 := Lib.hid (R3.out.below bb); have Q4 := Lib.hid (Q3.out.trans (bb.mono Q3.out.size)); obtain ⟨n1, _⟩ := (HB.out.below Q4.out (by simp)).get 1 rfl; clear bb r4))
        go_ret2
        exact ⟨_, _, _, _, rfl, R4.out, K4.out, B4.out⟩

set_option maxRecDepth 100000 in
set_option maxHeartbeats 6400000 in
theorem refSplit_c (vd vw : Value) (sel ord br : Int) (d : List Rg) (w : World) (hd : RgAt w vd d) (hl : d.length ≤ 4096) (ho : ord = 0 ∨ ord = 1) (hb : br = 0 ∨ br = 1) (aw : Option Addr) (nw cw : Nat) (hvw : vw = .slice aw nw cw) :
    Calls Try.prog 23 #[vd, .agg #[.int .i64 sel, .int .i64 ord, .int .i64 br, vw]] w (RetS (splitL d ord br).1 (splitL d ord br).2 w) := by
  subst hvw
  obtain ⟨ao, cap, rfl, _⟩ := hd.shape
  have HZ := Lib.hid (boxZ w (.int .i64 sel) (.int .i64 ord) (.int .i64 br) (.slice aw nw cw) 45)
  have HB := Lib.hid (BoxL.mk' w #[.int .i64 sel, .int .i64 ord, .int .i64 br, .slice aw nw cw] 45)
  have CE := Lib.hid (refEnds_c _ d _ (hd.below HZ.out) hl)
  have CS : Hid (∀ W, Below w.heap.size w W → Calls Try.prog 25 #[.slice ao d.length cap] W fun e w' => e = .returned (.int .i64 (sizeL (norm d))) ∧ Below W.heap.size W w') := fun W h => refSize_c _ d W (hd.below h) hl
  obtain ⟨b1, b2, b3, b4⟩ := ends_bnd d
  by_cases h2 : sizeL (norm d) < 2
  · have hs : splitL d ord br = ([], []) := by unfold splitL; rw [if_pos h2]
    rw [hs]
    clear hs hd
    unfold endV at CE
    generalize (endsL (norm d)).2.2 = ok at *
    generalize (endsL (norm d)).1 = lo at *
    generalize (endsL (norm d)).2.1 = hi at *
    generalize sizeL (norm d) = sz at *
    go_enter Try.func23, Try.ntmps23
    go_wp2_with (first
      | (go_at_call 50; (with_reducible refine CE.out.mono ?_); rintro e W1 ⟨rfl, bb⟩; have B1 := Lib.hid (HZ.out.trans (bb.mono HZ.out.size)); clear bb)
      | (go_at_call 25; (with_reducible refine (CS.out _ B1.out).mono ?_); rintro e W2 ⟨rfl, bb⟩; have B2 := Lib.hid (B1.out.trans (bb.mono B1.out.size)); clear bb))
    go_ret2
    exact ⟨none, 0, none, 0, rfl, RgAt.nil, RgAt.nil, B2.out⟩
  · have hle := two_ends d h2
    rw [split_ref d ord br h2 ho hb]
    dsimp only
    have CM : Hid (∀ x y vb W, Below w.heap.size w W → RgAt W vb [(x, y)] → Calls Try.prog 26 #[.slice ao d.length cap, vb] W (RetR (meetL d [(x, y)]) W)) := fun x y vb W h hb => refMeet_c _ vb d _ W (hd.below h) hb hl (by simp)
    have CN : Hid (∀ vb A W, Below w.heap.size w W → RgAt W vb A → A.length ≤ 4096 → Calls Try.prog 51 #[.slice ao d.length cap, vb] W (RetR (minusL d A) W)) := fun vb A W h hb ha => refMinus_c _ vb d _ W (hd.below h) hb hl ha
    unfold firstR
    unfold endV at CE
    have hm1 : ∀ x y, (meetL d [(x, y)]).length ≤ 4096 := fun x y => Nat.le_trans (canon_len _) (by omega)
    have HM1 := Lib.hid hm1
    clear hd hm1
    generalize (endsL (norm d)).2.2 = ok at *
    generalize (endsL (norm d)).1 = lo at *
    generalize (endsL (norm d)).2.1 = hi at *
    generalize sizeL (norm d) = sz at *
    rcases hb with rfl | rfl
    · rcases ho with rfl | rfl
      all_goals
        simp only [show ((0 : Int) = 1) = False by simp, if_true, if_false]
        go_enter Try.func23, Try.ntmps23
        go_wp2_with (first
          | (go_at_call 50; (with_reducible refine CE.out.mono ?_); rintro e W1 ⟨rfl, bb⟩; have B1 := Lib.hid (HZ.out.trans (bb.mono HZ.out.size)); have Q1 := Lib.hid bb; clear bb)
          | (go_at_call 25; (with_reducible refine (CS.out _ B1.out).mono ?_); rintro e W2 ⟨rfl, bb⟩; have B2 := Lib.hid (B1.out.trans (bb.mono B1.out.size)); have Q2 := Lib.hid (Q1.out.trans (bb.mono Q1.out.size)); obtain ⟨m1, _⟩ := (HB.out.below Q2.out (by simp)).get 1 rfl; obtain ⟨m2, _⟩ := (HB.out.below Q2.out (by simp)).get 2 rfl; have n1 := cell_al2 m1; have n2 := cell_al2 m2; have hlt2 := World.block_lt_of_cell? W2 _ m1; clear bb)
          | (go_at_call 51; (with_reducible refine (CN.out _ _ _ (B2.out.alloc B2.out.size _) (rgAt_one W2 _ _ _) (by simp)).mono ?_); rintro e W4 ⟨a4, c4, rfl, r4, bb⟩; have B4 := Lib.hid ((B2.out.alloc B2.out.size _).trans (bb.mono (B2.out.alloc B2.out.size _).size)); have R4 := Lib.hid r4; have K4 := Lib.hid ((rgAt_one W2 _ _ _).below bb); clear bb r4)
          | (go_at_call 51; (with_reducible refine (CN.out _ _ _ ((B2.out.alloc B2.out.size _).alloc (B2.out.alloc B2.out.size _).size _) (rgAt_two W2 _ _ _ _) (by simp)).mono ?_); rintro e W4 ⟨a4, c4, rfl, r4, bb⟩; have B4 := Lib.hid (((B2.out.alloc B2.out.size _).alloc (B2.out.alloc B2.out.size _).size _).trans (bb.mono ((B2.out.alloc B2.out.size _).alloc (B2.out.alloc B2.out.size _).size _).size)); have R4 := Lib.hid r4; have K4 := Lib.hid ((rgAt_two W2 _ _ _ _).below bb); clear bb r4))
        go_ret2
        exact ⟨_, _, _, _, rfl, K4.out, R4.out, B4.out⟩
    · rcases ho with rfl | rfl
      · simp only [show ((0 : Int) = 1) = False by simp, if_true, if_false]
        go_enter Try.func23, Try.ntmps23
        go_wp2_with (first
          | (go_at_call 50; (with_reducible refine CE.out.mono ?_); rintro e W1 ⟨rfl, bb⟩; have B1 := Lib.hid (HZ.out.trans (bb.mono HZ.out.size)); have Q1 := Lib.hid bb; clear bb)
          | (go_at_call 25; (with_reducible refine (CS.out _ B1.out).mono ?_); rintro e W2 ⟨rfl, bb⟩; have B2 := Lib.hid (B1.out.trans (bb.mono B1.out.size)); have Q2 := Lib.hid (Q1.out.trans (bb.mono Q1.out.size)); obtain ⟨m1, _⟩ := (HB.out.below Q2.out (by simp)).get 1 rfl; obtain ⟨m2, _⟩ := (HB.out.below Q2.out (by simp)).get 2 rfl; have n1 := cell_al2 m1; have n2 := cell_al2 m2; have n3 := fun o => cell_al2 (n1 o); have n4 := fun o => cell_al2 (n2 o); have hlt2 := World.block_lt_of_cell? W2 _ m1; clear bb))
        have BA := Lib.hid (B2.out.alloc B2.out.size (.cells #[.int .i64 lo, .int .i64 lo] 84))
        have QA := Lib.hid (Q2.out.alloc Q2.out.size (.cells #[.int .i64 lo, .int .i64 lo] 84))
        clear m1 m2 n1 n2 n3 n4 hlt2 B1 B2 Q1 Q2
        generalize W2.alloc (.cells #[.int .i64 lo, .int .i64 lo] 84) = WA at *
        obtain ⟨p1, _⟩ := (HB.out.below QA.out (by simp)).get 1 rfl
        have p2 := cell_al2 p1
        go_loop [10] (fun s => ∃ m : Int, lo ≤ m ∧ m ≤ (lo + hi) / 2 ∧ s = .int .i64 m) (fun s => ((lo + hi) / 2 - intOf s).toNat)
        case atStart => exact ⟨lo, by omega, by omega, rfl⟩
        case round =>
          obtain ⟨m, hm1, hm2, rfl⟩ := hrel
          have hm3 : m + 1 ≤ hi := by omega
          by_cases hm : 2 * (m + 1) ≤ lo + hi
          · go_wp2
            exact ⟨⟨m + 1, by omega, by omega, rfl⟩, by simp [intOf]; omega⟩
          · obtain rfl : m = (lo + hi) / 2 := by omega
            have hmb1 : -200 ≤ (lo + hi) / 2 := by omega
            have hmb2 : (lo + hi) / 2 ≤ 200 := by omega
            generalize (lo + hi) / 2 = m at *
            go_wp2_with (first
              | (go_at_call 26; (with_reducible refine (CM.out _ _ _ _ (BA.out.alloc BA.out.size _) (rgAt_one WA _ _ _)).mono ?_); rintro e W3 ⟨a3, c3, rfl, r3, bb⟩; have B3 := Lib.hid ((BA.out.alloc BA.out.size _).trans (bb.mono (BA.out.alloc BA.out.size _).size)); have Q3 := Lib.hid ((QA.out.alloc QA.out.size _).trans (bb.mono (QA.out.alloc QA.out.size _).size)); obtain ⟨s1, _⟩ := (HB.out.below Q3.out (by simp)).get 1 rfl; have R3 := Lib.hid r3; clear bb r3)
              | (go_at_call 51; (with_reducible refine (CN.out _ _ _ B3.out R3.out (HM1.out _ _)).mono ?_); rintro e W4 ⟨a4, c4, rfl, r4, bb⟩; have B4 := Lib.hid (B3.out.trans (bb.mono B3.out.size)); have R4 := Lib.hid r4; have K4 := Lib.hid (R3.out.below bb); clear bb r4))
            go_ret2
            exact ⟨_, _, _, _, rfl, K4.out, R4.out, B4.out⟩
      · simp only [show ((0 : Int) = 1) = False by simp, if_true, if_false]
        go_enter Try.func23, Try.ntmps23
        go_wp2_with (first
          | (go_at_call 50; (with_reducible refine CE.out.mono ?_); rintro e W1 ⟨rfl, bb⟩; have B1 := Lib.hid (HZ.out.trans (bb.mono HZ.out.size)); have Q1 := Lib.hid bb; clear bb)
          | (go_at_call 25; (with_reducible refine (CS.out _ B1.out).mono ?_); rintro e W2 ⟨rfl, bb⟩; have B2 := Lib.hid (B1.out.trans (bb.mono B1.out.size)); have Q2 := Lib.hid (Q1.out.trans (bb.mono Q1.out.size)); obtain ⟨m1, _⟩ := (HB.out.below Q2.out (by simp)).get 1 rfl; obtain ⟨m2, _⟩ := (HB.out.below Q2.out (by simp)).get 2 rfl; have n1 := cell_al2 m1; have n2 := cell_al2 m2; have n3 := fun o => cell_al2 (n1 o); have n4 := fun o => cell_al2 (n2 o); have hlt2 := World.block_lt_of_cell? W2 _ m1; clear bb))
        have BA := Lib.hid ((B2.out.alloc B2.out.size (.cells #[.int .i64 lo, .int .i64 lo] 84)).alloc (B2.out.alloc B2.out.size (.cells #[.int .i64 lo, .int .i64 lo] 84)).size (.cells #[.int .i64 hi, .int .i64 hi] 84))
        have QA := Lib.hid ((Q2.out.alloc Q2.out.size (.cells #[.int .i64 lo, .int .i64 lo] 84)).alloc (Q2.out.alloc Q2.out.size (.cells #[.int .i64 lo, .int .i64 lo] 84)).size (.cells #[.int .i64 hi, .int .i64 hi] 84))
        clear m1 m2 n1 n2 n3 n4 hlt2 B1 B2 Q1 Q2
        generalize (W2.alloc (.cells #[.int .i64 lo, .int .i64 lo] 84)).alloc (.cells #[.int .i64 hi, .int .i64 hi] 84) = WA at *
        obtain ⟨p1, _⟩ := (HB.out.below QA.out (by simp)).get 1 rfl
        have p2 := cell_al2 p1
        go_loop [10] (fun s => ∃ m : Int, lo ≤ m ∧ m ≤ (lo + hi) / 2 ∧ s = .int .i64 m) (fun s => ((lo + hi) / 2 - intOf s).toNat)
        case atStart => exact ⟨lo, by omega, by omega, rfl⟩
        case round =>
          obtain ⟨m, hm1, hm2, rfl⟩ := hrel
          have hm3 : m + 1 ≤ hi := by omega
          by_cases hm : 2 * (m + 1) ≤ lo + hi
          · go_wp2
            exact ⟨⟨m + 1, by omega, by omega, rfl⟩, by simp [intOf]; omega⟩
          · obtain rfl : m = (lo + hi) / 2 := by omega
            have hmb1 : -200 ≤ (lo + hi) / 2 := by omega
            have hmb2 : (lo + hi) / 2 ≤ 200 := by omega
            generalize (lo + hi) / 2 = m at *
            go_wp2_with (first
              | (go_at_call 26; (with_reducible refine (CM.out _ _ _ _ (BA.out.alloc BA.out.size _) (rgAt_one WA _ _ _)).mono ?_); rintro e W3 ⟨a3, c3, rfl, r3, bb⟩; have B3 := Lib.hid ((BA.out.alloc BA.out.size _).trans (bb.mono (BA.out.alloc BA.out.size _).size)); have Q3 := Lib.hid ((QA.out.alloc QA.out.size _).trans (bb.mono (QA.out.alloc QA.out.size _).size)); obtain ⟨s1, _⟩ := (HB.out.below Q3.out (by simp)).get 1 rfl; have R3 := Lib.hid r3; clear bb r3)
              | (go_at_call 26; (with_reducible refine (CM.out _ _ _ _ (B3.out.alloc B3.out.size _) (rgAt_one W3 _ _ _)).mono ?_); rintro e W5 ⟨a5, c5, rfl, r5, bb⟩; have B5 := Lib.hid ((B3.out.alloc B3.out.size _).trans (bb.mono (B3.out.alloc B3.out.size _).size)); have R5 := Lib.hid r5; clear bb r5)
              | (go_at_call 51; (with_reducible refine (CN.out _ _ _ B5.out R5.out (HM1.out _ _)).mono ?_); rintro e W4 ⟨a4, c4, rfl, r4, bb⟩; have B4 := Lib.hid (B5.out.trans (bb.mono B5.out.size)); have R4 := Lib.hid r4; have K4 := Lib.hid (R5.out.below bb); clear bb r4))
            go_ret2
            exact ⟨_, _, _, _, rfl, K4.out, R4.out, B4.out⟩
end Go.Proofs.Ytkhiogcdamjocaa
