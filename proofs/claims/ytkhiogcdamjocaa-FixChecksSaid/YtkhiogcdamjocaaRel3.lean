/-
  The reference's all, Vars of layer 16, walked.
-/
import Derived.Test.YtkhiogcdamjocaaRel1
import Derived.Test.YtkhiogcdamjocaaPL
import Derived.Test.YtkhiogcdamjocaaBoxL
import Derived.Test.YtkhiogcdamjocaaChk
import Derived.Deep.QuietTactic
import Derived.BigQuiet
namespace Go.Proofs.Ytkhiogcdamjocaa
open Go.RowKit

theorem Try.infoIntR : (Try.prog.info? 3).map (fun i => (i.zero, i.size, i.bytes)) = some (some (.int .i64 0), 1, 8) := by kernel_rfl
theorem own_made1 (w : World) (o : Obj) : ((w.alloc o).alloc (.cells #[] 3)).ownsRow w.heap.size 3 1 (.slice (some ⟨w.heap.size + 1, 0, none⟩) 0 0) 0 [] := by
  have h := World.ownsRow_made (w.alloc o) #[] 0 (base := w.heap.size) (e := 3) (size := 1) (by simp) (by decide) rfl
  rw [show (w.alloc o).heap.size = w.heap.size + 1 by simp] at h
  exact h
theorem own_made1' (w : World) (o : Obj) : ((w.alloc o).alloc (.cells #[] 3)).ownsRow (w.heap.size + 1) 3 1 (.slice (some ⟨w.heap.size + 1, 0, none⟩) 0 0) 0 [] := by
  have h := World.ownsRow_made (w.alloc o) #[] 0 (base := w.heap.size + 1) (e := 3) (size := 1) (by simp) (by decide) rfl
  rw [show (w.alloc o).heap.size = w.heap.size + 1 by simp] at h
  exact h
theorem isAt_litn (w : World) (zs : List Int) (T : TypeId) (hl : zs.length ≤ 4096) : IsAt (w.alloc (.cells (zs.map (Value.int .i64)).toArray T)) (.slice (some ⟨w.heap.size, 0, none⟩) zs.length zs.length) zs := by
  have h := World.ownsRow_lit (base := 0) w (zs.map (Value.int .i64)).toArray zs.length (e := T) (size := 1) (Nat.zero_le _) (by unfold maxLen; omega) (by simp)
  exact SlAt.of_own (by simpa using h)
theorem one_ints (zs : List Int) : ∀ u ∈ zs.map (Value.int .i64), u.oneCell' = true := by
  intro u hu
  obtain ⟨z, _, rfl⟩ := List.mem_map.1 hu
  rfl

set_option maxRecDepth 100000 in
set_option maxHeartbeats 1600000 in
theorem all_c (kind : Int) (va vb vv : Value) (rel c x y z : Int) (coef vars vs : List Int) (w : World) (h0 : IsAt w va coef) (h1 : IsAt w vb vars) (h2 : IsAt w vv vs) (hl1 : vars.length ≤ 4096) (hl2 : vs.length ≤ 4096) :
    Calls Try.prog 33 #[propV kind va vb rel c x y z vv] w fun e w' => ∃ ao cap, e = .returned (.slice ao (allL kind vars x y z vs).length cap) ∧ IsAt w' (.slice ao (allL kind vars x y z vs).length cap) (allL kind vars x y z vs) ∧ Below w.heap.size w w' := by
  obtain ⟨i0, hi, hz0, hz1, hz2⟩ := info_parts Try.infoIntR
  obtain ⟨a0, c0, rfl, _⟩ := SlAt.shape h0
  obtain ⟨a1, c1, rfl, _⟩ := SlAt.shape h1
  obtain ⟨a2, c2, rfl, _⟩ := SlAt.shape h2
  have HM := Lib.hid (own_made1 w)
  have HB : Hid (∀ o o2, Below w.heap.size w ((w.alloc o).alloc o2)) := fun o o2 => ((Below.refl _ _).alloc (Nat.le_refl _) o).alloc (by simp) o2
  have H1 := Lib.hid h1
  have H2 := Lib.hid h2
  clear h0 h1 h2
  unfold propV allL
  by_cases k1 : kind = 1
  · subst k1
    simp only [if_true]
    go_enter Try.func33, Try.ntmps33
    go_wp2_with (at_builtin; refine wpList_append_sl rfl (.tmp 9) (.tmp 12) 22 rfl w.heap.size 3 i0 (.int .i64 0) 1 8 Try.underlying22 hi hz0 hz1 hz2 rfl (by decide) _ 0 [] rfl (HM.out _) _ vars.length _ rfl (H1.out.below (HB.out _ _)) (one_ints _) (by omega) (by simp; omega) ?_; intro v1 w1 o1 b1 _)
    obtain ⟨oa, oc, rfl, _⟩ := (SlAt.of_own o1).shape
    have hb := Lib.hid ((HB.out _ _).trans b1)
    have hs := Lib.hid (SlAt.of_own o1)
    rw [Nat.zero_add, List.nil_append] at hs
    rw [Nat.zero_add]
    clear o1 b1
    go_ret
    exact ⟨_, _, rfl, hs.out, hb.out⟩
  by_cases k2 : kind = 2
  · subst k2
    simp only [show ((2 : Int) = 1) = False by simp, if_true, if_false]
    have HX : Hid (∀ W : World, IsAt (W.alloc (.cells #[.int .i64 x, .int .i64 y, .int .i64 z] 3)) (.slice (some ⟨W.heap.size, 0, none⟩) 3 3) [x, y, z]) := fun W => isAt_litn W [x, y, z] 3 (by simp)
    go_enter Try.func33, Try.ntmps33
    have HX2 : Hid (∀ o o2 : Obj, IsAt (((w.alloc o).alloc o2).alloc (.cells #[.int .i64 x, .int .i64 y, .int .i64 z] 3)) (.slice (some ⟨w.heap.size + 1 + 1, 0, none⟩) 3 3) [x, y, z]) := fun o o2 => by
      have h := HX.out ((w.alloc o).alloc o2)
      rw [show ((w.alloc o).alloc o2).heap.size = w.heap.size + 1 + 1 by simp] at h
      exact h
    go_wp2_with (at_builtin; refine wpList_append_sl rfl (.tmp 16) (.tmp 23) 22 rfl w.heap.size 3 i0 (.int .i64 0) 1 8 Try.underlying22 hi hz0 hz1 hz2 rfl (by decide) _ 0 [] rfl ((HM.out _).alloc _) _ 3 _ rfl (HX2.out _ _) (one_ints _) (by omega) (by simp; omega) ?_; intro v1 w1 o1 b1 _)
    obtain ⟨oa, oc, rfl, _⟩ := (SlAt.of_own o1).shape
    have hb := Lib.hid (((HB.out _ _).alloc (by simp; omega) _).trans b1)
    have hs := Lib.hid (SlAt.of_own o1)
    rw [Nat.zero_add, List.nil_append] at hs
    rw [Nat.zero_add]
    clear o1 b1
    go_ret
    exact ⟨_, _, rfl, hs.out, hb.out⟩
  by_cases k3 : kind = 3
  · subst k3
    simp only [show ((3 : Int) = 1) = False by simp, show ((3 : Int) = 2) = False by simp, if_true, if_false]
    go_enter Try.func33, Try.ntmps33
    go_wp2_with (at_builtin; refine wpList_append_sl rfl (.tmp 27) (.tmp 29) 22 rfl w.heap.size 3 i0 (.int .i64 0) 1 8 Try.underlying22 hi hz0 hz1 hz2 rfl (by decide) _ 0 [] rfl (HM.out _) _ vs.length _ rfl (H2.out.below (HB.out _ _)) (one_ints _) (by omega) (by simp; omega) ?_; intro v1 w1 o1 b1 _)
    obtain ⟨oa, oc, rfl, _⟩ := (SlAt.of_own o1).shape
    have hb := Lib.hid ((HB.out _ _).trans b1)
    have hs := Lib.hid (SlAt.of_own o1)
    rw [Nat.zero_add, List.nil_append] at hs
    rw [Nat.zero_add]
    clear o1 b1
    go_ret
    exact ⟨_, _, rfl, hs.out, hb.out⟩
  by_cases k4 : kind = 4
  · subst k4
    simp only [show ((4 : Int) = 1) = False by simp, show ((4 : Int) = 2) = False by simp, show ((4 : Int) = 3) = False by simp, if_true, if_false]
    have HX2 : Hid (∀ o o2 : Obj, IsAt (((w.alloc o).alloc o2).alloc (.cells #[.int .i64 x] 3)) (.slice (some ⟨w.heap.size + 1 + 1, 0, none⟩) 1 1) [x]) := fun o o2 => by
      have h := isAt_litn ((w.alloc o).alloc o2) [x] 3 (by simp)
      rw [show ((w.alloc o).alloc o2).heap.size = w.heap.size + 1 + 1 by simp] at h
      exact h
    have HB4 := Lib.hid (BoxL.mk' w #[.int .i64 4, .slice a0 coef.length c0, .slice a1 vars.length c1, .int .i64 rel, .int .i64 c, .int .i64 x, .int .i64 y, .int .i64 z, .slice a2 vs.length c2] 26)
    go_enter Try.func33, Try.ntmps33
    go_wp2_with (first
      | (at_builtin; refine wpList_append_sl rfl (.tmp 33) (.tmp 36) 22 rfl (w.heap.size + 1) 3 i0 (.int .i64 0) 1 8 Try.underlying22 hi hz0 hz1 hz2 rfl (by decide) _ 0 [] rfl ((own_made1' w _).alloc _) _ 1 _ rfl (HX2.out _ _) (one_ints [x]) (by omega) (by first | (simp; done) | (simp; omega)) ?_; intro v1 w1 o1 b1 _; have q1 := ((HB4.out.below (((Below.refl (w.heap.size + 1) (w.alloc (.cells #[.int .i64 4, .slice a0 coef.length c0, .slice a1 vars.length c1, .int .i64 rel, .int .i64 c, .int .i64 x, .int .i64 y, .int .i64 z, .slice a2 vs.length c2] 26))).alloc (by simp) (.cells #[] 3)).alloc (by simp) (.cells #[.int .i64 x] 3)) (Nat.lt_succ_self _)).below b1 (Nat.lt_succ_self _)).get 2 rfl; have q2 := q1.1; clear q1)
      | (at_builtin; refine wpList_append_sl rfl (.tmp 38) (.tmp 41) 22 rfl (w.heap.size + 1) 3 i0 (.int .i64 0) 1 8 Try.underlying22 hi hz0 hz1 hz2 rfl (by decide) _ (0 + 1) _ rfl o1 _ vars.length _ rfl (H1.out.below (((HB.out _ _).alloc (by simp; omega) _).trans (b1.mono (Nat.le_succ _)))) (one_ints _) (by omega) (by have := b1.size; simp at this; omega) ?_; intro v2 w2 o2 b2 _))
    obtain ⟨oa, oc, rfl, _⟩ := (SlAt.of_own o2).shape
    have hb := Lib.hid ((((HB.out _ _).alloc (by simp; omega) _).trans (b1.mono (Nat.le_succ _))).trans (b2.mono (Nat.le_succ _)))
    have hs := Lib.hid (SlAt.of_own o2)
    have e0 : 0 + 1 + vars.length = (x :: vars).length := by simp; omega
    rw [e0] at hs ⊢
    clear o1 b1 o2 b2 e0
    go_ret
    exact ⟨_, _, rfl, hs.out, hb.out⟩
  · have g1 : (kind == 1) = false := beq_eq_false_iff_ne.2 k1
    have g2 : (kind == 2) = false := beq_eq_false_iff_ne.2 k2
    have g3 : (kind == 3) = false := beq_eq_false_iff_ne.2 k3
    have g4 : (kind == 4) = false := beq_eq_false_iff_ne.2 k4
    rw [if_neg k1, if_neg k2, if_neg k3, if_neg k4]
    clear k1 k2 k3 k4
    go_enter Try.func33, Try.ntmps33
    go_wp2
    go_ret
    exact ⟨_, _, rfl, SlAt.of_own (HM.out _), HB.out _ _⟩
end Go.Proofs.Ytkhiogcdamjocaa
