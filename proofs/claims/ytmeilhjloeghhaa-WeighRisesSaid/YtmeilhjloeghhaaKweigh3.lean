/-
  The law WeighJoined, walked.
  Sorting in places: what is told of lists, in plain Lean.
  slices.swapRangeCmpFunc at integers, walked.
  slices.rotateCmpFunc at integers, walked.
  slices.insertionSortCmpFunc at integers, walked.
-/
import Derived.Test.YtmeilhjloeghhaaKweigh2
import Derived.Test.YtmeilhjloeghhaaKlib1
import Derived.BigRegion
import Derived.RegionTactic
import Derived.Deep.LoopGhost
import Derived.BigQuiet
import Derived.Deep.Cut
import Derived.Deep.CutRange
import Derived.Deep.DeepCutAuto
import Derived.Deep.RegionHeld3
namespace Go.Proofs.Ytmeilhjloeghhaa
open Go.RowKit

def bsb (bs : List Nat) : Option Nat := bestI (keyAt bs) (fun _ => false) bs.length
theorem skip_nil (bs : List Nat) : bestI (keyAt bs) (skipAt []) bs.length = bsb bs := bestI_congr _ (fun j _ => ⟨rfl, by simp [skipAt]⟩)
theorem keyAt_l (al bs : List Nat) (j : Nat) (h : j < al.length) : keyAt (al ++ bs) j = keyAt al j := by unfold keyAt; rw [List.getD_eq_getElem?_getD, List.getD_eq_getElem?_getD, List.getElem?_append_left h]
theorem keyAt_r (al bs : List Nat) (j : Nat) : keyAt (al ++ bs) (al.length + j) = keyAt bs j := by
  unfold keyAt; rw [List.getD_eq_getElem?_getD, List.getD_eq_getElem?_getD, List.getElem?_append_right (by omega), show al.length + j - al.length = j by omega]
theorem bsb_joined (al bs : List Nat) : bsb (al ++ bs) = match bsb al, bsb bs with
      | none, none => none
      | some a, none => some a
      | none, some b => some (al.length + b)
      | some a, some b => if lessK (keyAt bs b) (keyAt al a) = true then some (al.length + b) else some a := by
  unfold bsb
  rw [List.length_append, best_joined]
  have h1 : bestI (keyAt (al ++ bs)) (fun _ => false) al.length = bestI (keyAt al) (fun _ => false) al.length := bestI_congr _ (fun j hj => ⟨keyAt_l _ _ _ hj, rfl⟩)
  have h2 : bestI (fun j => keyAt (al ++ bs) (al.length + j)) (fun _ => false) bs.length = bestI (keyAt bs) (fun _ => false) bs.length := bestI_congr _ (fun j _ => ⟨keyAt_r _ _ _, rfl⟩)
  rw [h1, h2]
  cases ha : bestI (keyAt al) (fun _ => false) al.length with
  | none => cases bestI (keyAt bs) (fun _ => false) bs.length <;> rfl
  | some a =>
    have := bestI_lt _ _ _ _ ha
    cases bestI (keyAt bs) (fun _ => false) bs.length with
    | none => rfl
    | some b => simp only; rw [keyAt_r, keyAt_l _ _ _ this]

theorem Try.infoFloat : (Try.prog.info? 22).map (fun i => (i.zero, i.size, i.bytes)) = some (some (.float .f64 0), 1, 8) := by kernel_rfl
theorem fl_one (l : List Nat) : ∀ u ∈ l.map (Value.float .f64), u.oneCell' = true := by
  intro u hu; obtain ⟨k, _, rfl⟩ := List.mem_map.1 hu; rfl

theorem join_call {P : Program} {f : FuncId} {args : Array Value} {w w2 W : World} {x : Ending} (h : Calls P f args W fun e w' => e = x ∧ Below W.heap.size W w') (hB : Below w.heap.size w W) (hC : Below w2.heap.size w2 W) :
    Calls P f args W fun e w' => e = x ∧ Below w.heap.size w w' ∧ Below w2.heap.size w2 w' :=
  h.mono fun _ _ ⟨he, hb⟩ => ⟨he, hB.trans (hb.mono hB.size), hC.trans (hb.mono hC.size)⟩
theorem quiet_same0 {P : Program} {f : FuncId} {args : Array Value} {w W : World} {v : Value} (hW : ∃ m, W = w.drewN m)
    (h : Calls P f args W fun e w' => e = .returned v ∧ W = w') : Calls P f args W fun e w'' => e = .returned v ∧ ∃ m, w'' = w.drewN m :=
  h.mono fun _ _ ⟨he, hw⟩ => ⟨he, by rw [← hw]; exact hW⟩
theorem best_c (v : Value) (bs : List Nat) (w : World) (h : FlAt w v bs) (hl : bs.length ≤ 4096) :
    Calls Try.prog 12 #[v, .slice none 0 0] w fun e w' => e = .returned (.int .i64 (toI (bsb bs))) ∧ Below w.heap.size w w' := by
  rw [← skip_nil]; exact best_any v _ bs [] w h SlAt.nil hl (by decide)
theorem refBest_c (v : Value) (bs : List Nat) (w : World) (h : FlAt w v bs) (hl : bs.length ≤ 4096) :
    Calls Try.prog 13 #[v, .slice none 0 0] w fun e w' => e = .returned (.int .i64 (toI (bsb bs))) ∧ Below w.heap.size w w' := by
  rw [← skip_nil, ← best_plain]; exact refBest_any v _ bs [] w h SlAt.nil hl (by decide)

set_option maxHeartbeats 3200000 in
theorem weighJoined_any (va vb : Value) (al bs : List Nat) (w : World) (ha : FlAt w va al) (hb : FlAt w vb bs) :
    Calls Try.prog 5 #[va, vb] w fun e w' => e = .returned (.bool true) ∧ Below w.heap.size w w' := by
  obtain ⟨i0, hi, hz0, hz1, hz2⟩ := info_parts Try.infoFloat
  obtain ⟨a0, c0, rfl, _⟩ := ha.1.shape
  obtain ⟨a1, c1, rfl, _⟩ := hb.1.shape
  by_cases h1 : 128 < al.length
  · go_enter Try.func5, Try.ntmps5
    go_wp2
    go_ret
    exact ⟨rfl, Below.refl _ _⟩
  by_cases h2 : 128 < bs.length
  · go_enter Try.func5, Try.ntmps5
    go_wp2
    go_ret
    exact ⟨rfl, Below.refl _ _⟩
  have hla : al.length ≤ 4096 := by omega
  have hlb : bs.length ≤ 4096 := by omega
  have hlc : (al ++ bs).length ≤ 4096 := by simp; omega
  have CA : Hid (∀ W, Below w.heap.size w W → Calls Try.prog 12 #[.slice a0 al.length c0, .slice none 0 0] W fun e w' => e = .returned (.int .i64 (toI (bsb al))) ∧ Below W.heap.size W w') := fun W h => best_c _ _ W (ha.below h) hla
  have CB : Hid (∀ W, Below w.heap.size w W → Calls Try.prog 12 #[.slice a1 bs.length c1, .slice none 0 0] W fun e w' => e = .returned (.int .i64 (toI (bsb bs))) ∧ Below W.heap.size W w') := fun W h => best_c _ _ W (hb.below h) hlb
  have RA : Hid (∀ W, Below w.heap.size w W → Calls Try.prog 13 #[.slice a0 al.length c0, .slice none 0 0] W fun e w' => e = .returned (.int .i64 (toI (bsb al))) ∧ Below W.heap.size W w') := fun W h => refBest_c _ _ W (ha.below h) hla
  have RB : Hid (∀ W, Below w.heap.size w W → Calls Try.prog 13 #[.slice a1 bs.length c1, .slice none 0 0] W fun e w' => e = .returned (.int .i64 (toI (bsb bs))) ∧ Below W.heap.size W w') := fun W h => refBest_c _ _ W (hb.below h) hlb
  have HA := Lib.hid ha
  have HB := Lib.hid hb
  have hJ := Lib.hid (bsb_joined al bs)
  clear ha hb
  have hX : ∀ a, bsb al = some a → a < al.length := fun a h => bestI_lt _ _ _ _ h
  have hY : ∀ b, bsb bs = some b → b < bs.length := fun a h => bestI_lt _ _ _ _ h
  have HX := Lib.hid hX
  have HY := Lib.hid hY
  clear hX hY
  go_enter Try.func5, Try.ntmps5
  go_wp2_with (first
    | (at_builtin; refine wpList_append_sl rfl (.tmp 18) (.tmp 19) 25 rfl w.heap.size 22 i0 (.float .f64 0) 1 8 Try.underlying25 hi hz0 hz1 hz2 rfl (by decide) _ 0 [] rfl (World.ownsRow_made w #[] 0 (Nat.le_refl _) (by decide) rfl) _ _ _ rfl (HA.out.1.alloc _) (fl_one _) (by omega) (by simp) ?_; intro v1 w1 o1 b1 g1; clear g1; simp only [Nat.zero_add, List.nil_append] at o1; have bw1 := Lib.hid (((Below.refl w.heap.size w).alloc (Nat.le_refl _) _).trans b1); clear b1)
    | (at_builtin; refine wpList_append_sl rfl (.tmp 21) (.tmp 22) 25 rfl w.heap.size 22 i0 (.float .f64 0) 1 8 Try.underlying25 hi hz0 hz1 hz2 rfl (by decide) v1 al.length _ rfl o1 _ _ _ rfl (HB.out.below bw1.out).1 (fl_one _) (by omega) bw1.out.size ?_))
  intro v2 w2 o2 b2 g2
  have bw2 := Lib.hid (bw1.out.trans b2)
  have HL : Hid (FlAt w2 v2 (al ++ bs)) := by
    refine ⟨?_, fun b hb => ?_⟩
    · have := SlAt.of_own o2
      rwa [← List.map_append, ← List.length_append] at this
    · rcases List.mem_append.1 hb with h | h
      · exact HA.out.2 b h
      · exact HB.out.2 b h
  have CL : Hid (∀ W, Below w2.heap.size w2 W → Calls Try.prog 12 #[v2, .slice none 0 0] W fun e w' => e = .returned (.int .i64 (toI (bsb (al ++ bs)))) ∧ Below W.heap.size W w') := fun W h => best_c _ _ W (HL.out.below h) hlc
  clear g2 o2 b2 o1
  have hBw : Below w.heap.size w w2 := bw2.out
  have hBl : Below w2.heap.size w2 w2 := Below.refl _ _
  obtain ⟨z, hz⟩ : ∃ z, z = bsb (al ++ bs) := ⟨_, rfl⟩
  rw [← hz] at CL
  have HZ : Hid (z = _) := hz.trans hJ.out
  clear hz hJ
  have t0 : toI none = -1 := rfl
  have t1 : ∀ k : Nat, toI (some k) = (k : Int) := fun _ => rfl
  cases hxa : bsb al with
  | none =>
    cases hyb : bsb bs with
    | none =>
      have hz : z = none := by have := HZ.out; rw [hxa, hyb] at this; exact this
      subst hz
      rw [hxa] at CA RA
      rw [hyb] at CB RB
      clear HZ hxa hyb
      go_wp2_with (first
        | (go_at_call 12; ((with_reducible refine (join_call (CA.out _ hBw) hBw hBl).mono ?_); clear hBw hBl; rintro e w' ⟨rfl, hBw, hBl⟩))
        | (go_at_call 12; ((with_reducible refine (join_call (CB.out _ hBw) hBw hBl).mono ?_); clear hBw hBl; rintro e w' ⟨rfl, hBw, hBl⟩))
        | (go_at_call 12; ((with_reducible refine (join_call (CL.out _ hBl) hBw hBl).mono ?_); clear hBw hBl; rintro e w' ⟨rfl, hBw, hBl⟩))
        | (go_at_call 13; ((with_reducible refine (join_call (RA.out _ hBw) hBw hBl).mono ?_); clear hBw hBl; rintro e w' ⟨rfl, hBw, hBl⟩))
        | (go_at_call 13; ((with_reducible refine (join_call (RB.out _ hBw) hBw hBl).mono ?_); clear hBw hBl; rintro e w' ⟨rfl, hBw, hBl⟩)))
      go_ret
      exact ⟨ret_bool (by simp), by assumption⟩
    | some b =>
      have hz : z = some (al.length + b) := by have := HZ.out; rw [hxa, hyb] at this; exact this
      have hn : al.length = 0 := by
        have h := bestI_is (keyAt al) (fun _ => false) al.length
        unfold bsb at hxa; rw [hxa] at h
        rcases Nat.eq_zero_or_pos al.length with h0 | h0
        · exact h0
        · have := h 0 h0; cases this
      rw [hn, Nat.zero_add] at hz
      subst hz
      rw [hxa] at CA RA
      rw [hyb] at CB RB
      clear HZ hxa hyb hn
      go_wp2_with (first
        | (go_at_call 12; ((with_reducible refine (join_call (CA.out _ hBw) hBw hBl).mono ?_); clear hBw hBl; rintro e w' ⟨rfl, hBw, hBl⟩))
        | (go_at_call 12; ((with_reducible refine (join_call (CB.out _ hBw) hBw hBl).mono ?_); clear hBw hBl; rintro e w' ⟨rfl, hBw, hBl⟩))
        | (go_at_call 12; ((with_reducible refine (join_call (CL.out _ hBl) hBw hBl).mono ?_); clear hBw hBl; rintro e w' ⟨rfl, hBw, hBl⟩))
        | (go_at_call 13; ((with_reducible refine (join_call (RA.out _ hBw) hBw hBl).mono ?_); clear hBw hBl; rintro e w' ⟨rfl, hBw, hBl⟩))
        | (go_at_call 13; ((with_reducible refine (join_call (RB.out _ hBw) hBw hBl).mono ?_); clear hBw hBl; rintro e w' ⟨rfl, hBw, hBl⟩)))
      all_goals go_ret
      all_goals exact ⟨ret_bool (by simp <;> omega), by assumption⟩
  | some a =>
    cases hyb : bsb bs with
    | none =>
      have hz : z = some a := by have := HZ.out; rw [hxa, hyb] at this; exact this
      subst hz
      rw [hxa] at CA RA
      rw [hyb] at CB RB
      clear HZ hxa hyb
      go_wp2_with (first
        | (go_at_call 12; ((with_reducible refine (join_call (CA.out _ hBw) hBw hBl).mono ?_); clear hBw hBl; rintro e w' ⟨rfl, hBw, hBl⟩))
        | (go_at_call 12; ((with_reducible refine (join_call (CB.out _ hBw) hBw hBl).mono ?_); clear hBw hBl; rintro e w' ⟨rfl, hBw, hBl⟩))
        | (go_at_call 12; ((with_reducible refine (join_call (CL.out _ hBl) hBw hBl).mono ?_); clear hBw hBl; rintro e w' ⟨rfl, hBw, hBl⟩))
        | (go_at_call 13; ((with_reducible refine (join_call (RA.out _ hBw) hBw hBl).mono ?_); clear hBw hBl; rintro e w' ⟨rfl, hBw, hBl⟩))
        | (go_at_call 13; ((with_reducible refine (join_call (RB.out _ hBw) hBw hBl).mono ?_); clear hBw hBl; rintro e w' ⟨rfl, hBw, hBl⟩)))
      all_goals go_ret
      all_goals exact ⟨ret_bool (by simp <;> omega), by assumption⟩
    | some b =>
      have haa := HX.out a hxa
      have hbb := HY.out b hyb
      have hz : z = if lessK (keyAt bs b) (keyAt al a) = true then some (al.length + b) else some a := by have := HZ.out; rw [hxa, hyb] at this; exact this
      rw [hxa] at CA RA
      rw [hyb] at CB RB
      obtain ⟨ba, oa, ca', he, _, _, hca⟩ := FlAt.at HA.out (by omega)
      simp only [Value.slice.injEq, true_and] at he
      obtain ⟨rfl, rfl⟩ := he
      obtain ⟨bb, ob, cb', he, _, _, hcb⟩ := FlAt.at HB.out (by omega)
      simp only [Value.slice.injEq, true_and] at he
      obtain ⟨rfl, rfl⟩ := he
      have hxw : al[a] < 2 ^ 64 := HA.out.2 _ (List.getElem_mem haa)
      have hyw : bs[b] < 2 ^ 64 := HB.out.2 _ (List.getElem_mem hbb)
      have hc1 := hca a haa
      have hc2 := hcb b hbb
      obtain ⟨x, hx⟩ : ∃ x, x = al[a] := ⟨_, rfl⟩
      obtain ⟨y, hy⟩ : ∃ y, y = bs[b] := ⟨_, rfl⟩
      rw [← hx] at hc1 hxw
      rw [← hy] at hc2 hyw
      have HKx : Hid (keyAt al a = wk x) := by show _ = _; rw [keyAt, hx]; simp [haa]
      have HKy : Hid (keyAt bs b = wk y) := by show _ = _; rw [keyAt, hy]; simp [hbb]
      have HC1 := Lib.hid (fun W (h : Below w.heap.size w W) => (h.cell (p := ⟨ba, oa + a, none⟩) (World.block_lt_of_cell? w _ hc1)).trans hc1)
      have HC2 := Lib.hid (fun W (h : Below w.heap.size w W) => (h.cell (p := ⟨bb, ob + b, none⟩) (World.block_lt_of_cell? w _ hc2)).trans hc2)
      have CLs0 : Hid (∀ w, Calls Try.prog 10 #[.float .f64 y, .float .f64 x] w fun e w' => e = .returned (.bool (lessK (wk y) (wk x))) ∧ w = w') := fun w => less_any y x w hyw hxw
      clear hx hy hxw hyw hc1 hc2 hca hcb hxa hyb HZ
      rw [HKx.out, HKy.out] at hz
      cases hll : lessK (wk y) (wk x) with
      | true =>
        rw [hll] at hz
        have CLs : Hid (∀ w, Calls Try.prog 10 #[.float .f64 y, .float .f64 x] w fun e w' => e = .returned (.bool true) ∧ w = w') := fun w => by rw [← hll]; exact CLs0.out w
        have hz' : z = some (al.length + b) := hz
        subst hz'
        clear hll hz CLs0
        go_wp2_with (first
          | (go_at_call 12; ((with_reducible refine (join_call (CA.out _ hBw) hBw hBl).mono ?_); clear hBw hBl; rintro e w' ⟨rfl, hBw, hBl⟩))
          | (go_at_call 12; ((with_reducible refine (join_call (CB.out _ hBw) hBw hBl).mono ?_); clear hBw hBl; rintro e w' ⟨rfl, hBw, hBl⟩))
          | (go_at_call 12; ((with_reducible refine (join_call (CL.out _ hBl) hBw hBl).mono ?_); clear hBw hBl; rintro e w' ⟨rfl, hBw, hBl⟩))
          | (go_at_call 13; ((with_reducible refine (join_call (RA.out _ hBw) hBw hBl).mono ?_); clear hBw hBl; rintro e w' ⟨rfl, hBw, hBl⟩))
          | (go_at_call 13; ((with_reducible refine (join_call (RB.out _ hBw) hBw hBl).mono ?_); clear hBw hBl; rintro e w' ⟨rfl, hBw, hBl⟩)))
        have hc1 := HC1.out _ hBw
        have hc2 := HC2.out _ hBw
        have HBw := Lib.hid hBw
        clear hBw hBl
        go_quiet ((go_at_call 10; exact quiet_same0 ⟨_, rfl⟩ (CLs.out _)))
        go_wp2
        go_ret
        exact ⟨ret_bool (by simp), below_drewN HBw.out _⟩
      | false =>
        rw [hll] at hz
        have CLs : Hid (∀ w, Calls Try.prog 10 #[.float .f64 y, .float .f64 x] w fun e w' => e = .returned (.bool false) ∧ w = w') := fun w => by rw [← hll]; exact CLs0.out w
        have hz' : z = some a := hz
        subst hz'
        clear hll hz CLs0
        go_wp2_with (first
          | (go_at_call 12; ((with_reducible refine (join_call (CA.out _ hBw) hBw hBl).mono ?_); clear hBw hBl; rintro e w' ⟨rfl, hBw, hBl⟩))
          | (go_at_call 12; ((with_reducible refine (join_call (CB.out _ hBw) hBw hBl).mono ?_); clear hBw hBl; rintro e w' ⟨rfl, hBw, hBl⟩))
          | (go_at_call 12; ((with_reducible refine (join_call (CL.out _ hBl) hBw hBl).mono ?_); clear hBw hBl; rintro e w' ⟨rfl, hBw, hBl⟩))
          | (go_at_call 13; ((with_reducible refine (join_call (RA.out _ hBw) hBw hBl).mono ?_); clear hBw hBl; rintro e w' ⟨rfl, hBw, hBl⟩))
          | (go_at_call 13; ((with_reducible refine (join_call (RB.out _ hBw) hBw hBl).mono ?_); clear hBw hBl; rintro e w' ⟨rfl, hBw, hBl⟩)))
        have hc1 := HC1.out _ hBw
        have hc2 := HC2.out _ hBw
        have HBw := Lib.hid hBw
        clear hBw hBl
        go_quiet ((go_at_call 10; exact quiet_same0 ⟨_, rfl⟩ (CLs.out _)))
        go_wp2
        go_ret
        exact ⟨ret_bool (by simp), below_drewN HBw.out _⟩
end Go.Proofs.Ytmeilhjloeghhaa
namespace Go.Proofs.Ytmeilhjloeghhaa
open Go.RowKit

theorem natI_len (l : List Nat) : (natI l).length = l.length := by simp [natI]
theorem natI_set (l : List Nat) (i x : Nat) : natI (l.set i x) = (natI l).set i (.int .i64 (x : Int)) := by simp [natI, List.map_set]
theorem natI_at {l A B : List Nat} {x i : Nat} (h : l = A ++ x :: B) (hi : i = A.length) : (natI l)[i]? = some (.int .i64 (x : Int)) := by
  subst h hi; simp [natI]
theorem natI_at2 {l A B C : List Nat} {x y i : Nat} (h : l = A ++ x :: (B ++ y :: C)) (hi : i = A.length + 1 + B.length) : (natI l)[i]? = some (.int .i64 (y : Int)) :=
  natI_at (A := A ++ x :: B) (B := C) (by rw [h]; simp) (by rw [hi]; simp; omega)
theorem swap_up (A B C : List Nat) (x y : Nat) {i j : Nat} (hi : i = A.length) (hj : j = A.length + 1 + B.length) : ((A ++ x :: (B ++ y :: C)).set i y).set j x = A ++ y :: (B ++ x :: C) := by
  subst hi hj
  rw [List.set_append_right _ _ (Nat.le_refl _), Nat.sub_self, List.set_cons_zero, List.set_append_right _ _ (by omega), show A.length + 1 + B.length - A.length = B.length + 1 by omega, List.set_cons_succ, List.set_append_right _ _ (Nat.le_refl _), Nat.sub_self, List.set_cons_zero]
theorem swap_down (A B C : List Nat) (x y : Nat) {i j : Nat} (hi : i = A.length) (hj : j = A.length + 1 + B.length) : ((A ++ x :: (B ++ y :: C)).set j x).set i y = A ++ y :: (B ++ x :: C) := by
  subst hi hj
  rw [List.set_append_right _ _ (by omega), show A.length + 1 + B.length - A.length = B.length + 1 by omega, List.set_cons_succ, List.set_append_right _ _ (Nat.le_refl _), Nat.sub_self, List.set_cons_zero, List.set_append_right _ _ (Nat.le_refl _), Nat.sub_self, List.set_cons_zero]
theorem row_swap {w : World} {b : Nat} {d A B C : List Nat} {x y i j : Nat} (h : BoxL w b (natI d)) (hd : d = A ++ x :: (B ++ y :: C)) (hi : i = A.length) (hj : j = A.length + 1 + B.length) :
    BoxL ((w.setCell ⟨b, i, none⟩ (.int .i64 (y : Int))).setCell ⟨b, j, none⟩ (.int .i64 (x : Int))) b (natI (A ++ y :: (B ++ x :: C))) := by
  have hl : (natI d).length = A.length + 1 + B.length + 1 + C.length := by rw [natI_len, hd]; simp; omega
  have h2 := (h.set i (by omega) (.int .i64 (y : Int))).set j (by rw [List.length_set]; omega) (.int .i64 (x : Int))
  rw [← natI_set, ← natI_set, hd, swap_up A B C x y hi hj] at h2
  exact h2
theorem row_swap2 {w : World} {b : Nat} {d A B C : List Nat} {x y i j : Nat} (h : BoxL w b (natI d)) (hd : d = A ++ x :: (B ++ y :: C)) (hi : i = A.length) (hj : j = A.length + 1 + B.length) :
    BoxL ((w.setCell ⟨b, j, none⟩ (.int .i64 (x : Int))).setCell ⟨b, i, none⟩ (.int .i64 (y : Int))) b (natI (A ++ y :: (B ++ x :: C))) := by
  have hl : (natI d).length = A.length + 1 + B.length + 1 + C.length := by rw [natI_len, hd]; simp; omega
  have h2 := (h.set j (by omega) (.int .i64 (x : Int))).set i (by rw [List.length_set]; omega) (.int .i64 (y : Int))
  rw [← natI_set, ← natI_set, hd, swap_down A B C x y hi hj] at h2
  exact h2
theorem below_two {B b i j : Nat} {w W : World} (h : Below B w W) (hb : B ≤ b) (u v : Value) : Below B w ((W.setCell ⟨b, i, none⟩ u).setCell ⟨b, j, none⟩ v) :=
  (h.setCell (p := ⟨b, i, none⟩) hb u).setCell (p := ⟨b, j, none⟩) hb v
/-- mid-way through swapping X with Y -/
def swr (P X Q Y S : List Nat) (i : Nat) : List Nat := P ++ (Y.take i ++ (X.drop i ++ (Q ++ (X.take i ++ (Y.drop i ++ S)))))
theorem swr_split (P X Q Y S : List Nat) {i : Nat} (hi : i < X.length) (hj : i < Y.length) : swr P X Q Y S i = (P ++ Y.take i) ++ X[i] :: ((X.drop (i + 1) ++ (Q ++ X.take i)) ++ Y[i] :: (Y.drop (i + 1) ++ S)) := by
  unfold swr
  rw [List.drop_eq_getElem_cons hi, List.drop_eq_getElem_cons hj]; simp only [List.append_assoc, List.cons_append]
theorem swr_next (P X Q Y S : List Nat) {i : Nat} (hi : i < X.length) (hj : i < Y.length) : swr P X Q Y S (i + 1) = (P ++ Y.take i) ++ Y[i] :: ((X.drop (i + 1) ++ (Q ++ X.take i)) ++ X[i] :: (Y.drop (i + 1) ++ S)) := by
  unfold swr
  rw [List.take_succ_eq_append_getElem hi, List.take_succ_eq_append_getElem hj]; simp only [List.append_assoc, List.cons_append, List.nil_append]
theorem swr_zero (P X Q Y S : List Nat) : swr P X Q Y S 0 = P ++ (X ++ (Q ++ (Y ++ S))) := by simp [swr]
theorem swr_all (P X Q Y S : List Nat) {n : Nat} (hx : X.length = n) (hy : Y.length = n) : swr P X Q Y S n = P ++ (Y ++ (Q ++ (X ++ S))) := by
  unfold swr
  rw [List.take_of_length_le (by omega), List.take_of_length_le (by omega), List.drop_of_length_le (by omega), List.drop_of_length_le (by omega)]; simp
theorem take_le {lt : Nat → Nat → Prop} {L : List Nat} (hs : L.Pairwise lt) {c : Nat} (hc : c < L.length) {x : Nat} (hx : x ∈ L.take (c + 1)) : x = L[c] ∨ lt x L[c] := by
  rw [List.take_succ_eq_append_getElem hc, List.mem_append, List.mem_singleton] at hx
  rcases hx with hx | hx
  · rw [← List.take_append_drop c L, List.pairwise_append] at hs
    exact .inr (hs.2.2 x hx L[c] (by rw [List.drop_eq_getElem_cons hc]; exact List.mem_cons_self))
  · exact .inl hx
theorem drop_ge {lt : Nat → Nat → Prop} {L : List Nat} (hs : L.Pairwise lt) {c : Nat} (hc : c < L.length) {y : Nat} (hy : y ∈ L.drop c) : y = L[c] ∨ lt L[c] y := by
  have h2 : (L.drop c).Pairwise lt := hs.sublist (List.drop_sublist c L)
  rw [List.drop_eq_getElem_cons hc] at hy h2
  rcases List.mem_cons.1 hy with hy | hy
  · exact .inl hy
  · exact .inr ((List.pairwise_cons.1 h2).1 y hy)
theorem sym_next {lt : Nat → Nat → Prop} (htr : ∀ {a b c}, lt a b → lt b c → lt a c) {L R : List Nat} (hL : L.Pairwise lt) (hR : R.Pairwise lt) {s j : Nat} (hs : s < L.length) (hj : j < R.length) (h : lt L[s] R[j]) :
    ∀ x ∈ L.take (s + 1), ∀ y ∈ R.drop j, lt x y := by
  intro x hx y hy
  rcases take_le hL hs hx with e1 | e1 <;> rcases drop_ge hR hj hy with e2 | e2
  · rw [e1, e2]; exact h
  · rw [e1]; exact htr h e2
  · rw [e2]; exact htr e1 h
  · exact htr e1 (htr h e2)
theorem sym_merged {lt : Nat → Nat → Prop} {L R M1 M2 : List Nat} {s t : Nat} (hL : L.Pairwise lt) (hR : R.Pairwise lt) (hA : ∀ x ∈ L.take s, ∀ y ∈ R.drop t, lt x y) (hB : ∀ x ∈ R.take t, ∀ y ∈ L.drop s, lt x y)
    (p1 : M1.Perm (L.take s ++ R.take t)) (p2 : M2.Perm (L.drop s ++ R.drop t)) (s1 : M1.Pairwise lt) (s2 : M2.Pairwise lt) : (M1 ++ M2).Perm (L ++ R) ∧ (M1 ++ M2).Pairwise lt := by
  constructor
  · refine (p1.append p2).trans ?_
    have e : (L.take s ++ R.take t ++ (L.drop s ++ R.drop t)).Perm (L.take s ++ L.drop s ++ (R.take t ++ R.drop t)) := by
      rw [List.append_assoc, List.append_assoc]
      refine List.Perm.append_left _ ?_
      rw [← List.append_assoc, ← List.append_assoc]
      exact List.Perm.append_right _ List.perm_append_comm
    rw [List.take_append_drop, List.take_append_drop] at e
    exact e
  · refine List.pairwise_append.2 ⟨s1, s2, fun x hx y hy => ?_⟩
    have hx' := p1.mem_iff.1 hx
    have hy' := p2.mem_iff.1 hy
    have cL : (L.take s ++ L.drop s).Pairwise lt := by rw [List.take_append_drop]; exact hL
    have cR : (R.take t ++ R.drop t).Pairwise lt := by rw [List.take_append_drop]; exact hR
    rcases List.mem_append.1 hx' with h1 | h1 <;> rcases List.mem_append.1 hy' with h2 | h2
    · exact (List.pairwise_append.1 cL).2.2 x h1 y h2
    · exact hA x h1 y h2
    · exact hB x h1 y h2
    · exact (List.pairwise_append.1 cR).2.2 x h1 y h2
theorem ahead_gt {ks : Nat → Option Int} {l r : Nat} (h : l < r) : ahead ks r l ↔ lessK (ks r) (ks l) = true := by
  unfold ahead
  constructor
  · rintro (h1 | ⟨_, h2⟩)
    · exact h1
    · omega
  · exact .inl
theorem ahead_le {ks : Nat → Option Int} {l r : Nat} (h : l < r) (hn : lessK (ks r) (ks l) = false) : ahead ks l r := .inr ⟨hn, h⟩
theorem sorted_unique {ks : Nat → Option Int} : ∀ {X Y : List Nat}, X.Pairwise (ahead ks) → Y.Pairwise (ahead ks) → X.Perm Y → X = Y := by
  intro X
  induction X with
  | nil => intro Y _ _ hp; exact (List.nil_perm.1 hp).symm ▸ rfl
  | cons x X ih =>
    intro Y hx hy hp
    cases Y with
    | nil => exact absurd hp.length_eq (by simp)
    | cons y Y =>
      have e : x = y := by
        by_cases h : x = y
        · exact h
        · have h1 : y ∈ X := by have := hp.mem_iff.2 (List.mem_cons_self (a := y) (l := Y)); rcases List.mem_cons.1 this with h2 | h2
                                · exact absurd h2.symm h
                                · exact h2
          have h2 : x ∈ Y := by have := hp.mem_iff.1 (List.mem_cons_self (a := x) (l := X)); rcases List.mem_cons.1 this with h3 | h3
                                · exact absurd h3 h
                                · exact h3
          exact (ahead_asymm ((List.pairwise_cons.1 hx).1 y h1) ((List.pairwise_cons.1 hy).1 x h2)).elim
      subst e
      rw [ih (List.pairwise_cons.1 hx).2 (List.pairwise_cons.1 hy).2 (List.perm_cons x |>.1 hp)]
end Go.Proofs.Ytmeilhjloeghhaa
namespace Go.Proofs.Ytmeilhjloeghhaa
open Go.RowKit

theorem swr_len (P X Q Y S : List Nat) {i n : Nat} (hx : X.length = n) (hy : Y.length = n) (hi : i ≤ n) : (swr P X Q Y S i).length = P.length + n + Q.length + n + S.length := by
  unfold swr; simp [List.length_take, List.length_drop]; omega
set_option maxRecDepth 100000 in
set_option maxHeartbeats 1600000 in
theorem swapRange_c (blk N cap : Nat) (cv : Value) (P X Q Y S : List Nat) (W0 W : World) (a b n : Nat) (ha : a = P.length) (hb : b = P.length + X.length + Q.length) (hx : X.length = n) (hy : Y.length = n)
    (hN : N = P.length + X.length + Q.length + Y.length + S.length) (hNs : N ≤ 4096) (h : BoxL W blk (natI (P ++ (X ++ (Q ++ (Y ++ S)))))) (hB : Below blk W0 W) :
    Calls Try.prog 32 #[.slice (some ⟨blk, 0, none⟩) N cap, .int .i64 a, .int .i64 b, .int .i64 n, cv] W fun e w' => (∃ u, e = .returned u) ∧ BoxL w' blk (natI (P ++ (Y ++ (Q ++ (X ++ S))))) ∧ Below blk W0 w' := by
  have H0 : Hid (BoxL W blk (natI (swr P X Q Y S 0))) := by show BoxL _ _ _; rw [swr_zero]; exact h
  have HB := Lib.hid hB
  have HXL := Lib.hid hx
  have HYL := Lib.hid hy
  have HAL := Lib.hid ha
  have HBL := Lib.hid hb
  have HNL := Lib.hid hN
  have hab : a + n ≤ b := by omega
  have hbn : b + n ≤ N := by omega
  clear h hB hx hy ha hb hN
  go_enter Try.func32, Try.ntmps32
  go_wp2
  go_loopg [10] n (fun m s wr => ∃ i : Nat, i ≤ n ∧ s = .int .i64 i ∧ Hid (m = n - i) ∧ Hid (BoxL wr blk (natI (swr P X Q Y S i))) ∧ Hid (Below blk W0 wr))
  case atStart => exact ⟨0, by omega, rfl, rfl, H0, HB⟩
  case round =>
    obtain ⟨i, hi, rfl, HN, HR, HW⟩ := hrel
    by_cases hlt : i < n
    · have h1 : i < X.length := by have := HXL.out; omega
      have h2 : i < Y.length := by have := HYL.out; omega
      have hsp := swr_split P X Q Y S h1 h2
      have HNX := Lib.hid (swr_next P X Q Y S h1 h2)
      have HPA : Hid (a + i = (P ++ Y.take i).length) := by show _ = _; have := HAL.out; simp [List.length_take]; omega
      have HPB : Hid (b + i = (P ++ Y.take i).length + 1 + (X.drop (i + 1) ++ (Q ++ X.take i)).length) := by show _ = _; have := HAL.out; have := HBL.out; simp [List.length_take, List.length_drop]; omega
      obtain ⟨xi, fi⟩ := HR.out.get (a + i) (natI_at hsp HPA.out)
      obtain ⟨xk, fk⟩ := HR.out.get (b + i) (natI_at2 hsp HPB.out)
      have HS := Lib.hid hsp
      generalize X[i] = x at *
      generalize Y[i] = y at *
      have hz : (wr.setCell ⟨blk, a + i, none⟩ (.int .i64 y)).cell? ⟨blk, b + i, none⟩ = some (.int .i64 y) := by
        rw [World.cell?_setCell_other _ _ _ _ (fun he => by injection he; omega)]; exact xk
      have j1 : (a : Int) + i < N := by omega
      have j2 : (b : Int) + i < N := by omega
      have j3 : ((a : Int) + i).toNat = a + i := by omega
      have j4 : ((b : Int) + i).toNat = b + i := by omega
      have HNW : Hid (∀ W, W = ((wr.setCell ⟨blk, a + i, none⟩ (.int .i64 y)).setCell ⟨blk, b + i, none⟩ (.int .i64 x)).drew → BoxL W blk (natI (swr P X Q Y S (i + 1))) ∧ Below blk W0 W) := fun W hW => by
        subst hW
        rw [HNX.out]
        exact ⟨row_swap HR.out HS.out HPA.out HPB.out, (below_two HW.out (Nat.le_refl _) _ _).drew⟩
      clear hsp
      go_upto_region 3 with fail
      go_region
      all_goals
        go_wp2
        go_roundg (n - (i + 1))
        case measure => have := HN.out; omega
        case rel => exact ⟨i + 1, by omega, by go_num, rfl, Lib.hid (HNW.out _ rfl).1, Lib.hid (HNW.out _ rfl).2⟩
    · obtain rfl : i = n := by omega
      go_wp2
      go_end0
      refine ⟨⟨_, rfl⟩, ?_, HW.out⟩
      have := HR.out
      rw [swr_all P X Q Y S HXL.out HYL.out] at this
      exact this
end Go.Proofs.Ytmeilhjloeghhaa
namespace Go.Proofs.Ytmeilhjloeghhaa
open Go.RowKit

set_option maxRecDepth 100000 in
set_option maxHeartbeats 1600000 in
theorem rotate_c (blk N cap : Nat) (cv : Value) (P X Y S : List Nat) (W0 W : World) (a m b : Nat) (ha : a = P.length) (hm : m = P.length + X.length) (hb : b = P.length + X.length + Y.length) (hx : 0 < X.length) (hy : 0 < Y.length)
    (hN : N = P.length + X.length + Y.length + S.length) (hNs : N ≤ 4096) (h : BoxL W blk (natI (P ++ (X ++ (Y ++ S))))) (hB : Below blk W0 W) :
    Calls Try.prog 31 #[.slice (some ⟨blk, 0, none⟩) N cap, .int .i64 a, .int .i64 m, .int .i64 b, cv] W fun e w' => (∃ u, e = .returned u) ∧ BoxL w' blk (natI (P ++ (Y ++ (X ++ S)))) ∧ Below blk W0 w' := by
  have H0 : Hid (∃ P' I J S' : List Nat, I.length = m - a ∧ J.length = b - m ∧ P'.length + I.length = m ∧ 0 < I.length ∧ 0 < J.length ∧ P'.length + I.length + J.length + S'.length = N ∧ BoxL W blk (natI (P' ++ (I ++ (J ++ S')))) ∧ P' ++ (J ++ (I ++ S')) = P ++ (Y ++ (X ++ S))) :=
    ⟨P, X, Y, S, by omega, by omega, by omega, hx, hy, by omega, h, rfl⟩
  have HB := Lib.hid hB
  obtain ⟨F, hF⟩ : ∃ F, F = P ++ (Y ++ (X ++ S)) := ⟨_, rfl⟩
  rw [← hF] at H0
  rw [← hF]
  have hma : a < m := by omega
  have hmb : m < b := by omega
  have hbN : b ≤ N := by omega
  obtain ⟨i0, hi0⟩ : ∃ i0, i0 = m - a := ⟨_, rfl⟩
  obtain ⟨j0, hj0⟩ : ∃ j0, j0 = b - m := ⟨_, rfl⟩
  have e1 : (m : Int) - a = (i0 : Int) := by omega
  have e2 : (b : Int) - m = (j0 : Int) := by omega
  rw [← hi0, ← hj0] at H0
  have hi4 : i0 ≤ 4096 := by omega
  have hj4 : j0 ≤ 4096 := by omega
  clear h hB hx hy ha hm hb hN hF hi0 hj0
  go_enter Try.func31, Try.ntmps31
  go_upto_region 2 with fail
  clear e1 e2
  go_loopg [10, 11] (i0 + j0) (fun f s s2 wr => ∃ (i j : Nat), s = .int .i64 i ∧ s2 = .int .i64 j ∧ i ≤ 4096 ∧ j ≤ 4096 ∧ Hid (f = i + j) ∧ Hid (∃ P' I J S' : List Nat, I.length = i ∧ J.length = j ∧ P'.length + I.length = m ∧ 0 < I.length ∧ 0 < J.length ∧ P'.length + I.length + J.length + S'.length = N ∧ BoxL wr blk (natI (P' ++ (I ++ (J ++ S')))) ∧ P' ++ (J ++ (I ++ S')) = F) ∧ Hid (Below blk W0 wr))
  case atStart => exact ⟨i0, j0, rfl, rfl, hi4, hj4, rfl, H0, HB⟩
  case round =>
    obtain ⟨i, j, rfl, rfl, hi, hj, HN, HX, HW⟩ := hrel
    obtain ⟨P', I, J, S', hI, hJ, hP, hI0, hJ0, hNN, hbx, hFF⟩ := HX.out
    clear HX
    have him : i ≤ m := by omega
    have hi0 : 0 < i := by omega
    have hj0 : 0 < j := by omega
    have hmj : m + j ≤ 4096 := by omega
    by_cases hij : i = j
    · have CS : Hid (Calls Try.prog 32 #[.slice (some ⟨blk, 0, none⟩) N cap, .int .i64 ((m : Int) - j), .int .i64 m, .int .i64 j, cv] wr fun e w' => (∃ u, e = .returned u) ∧ BoxL w' blk (natI F) ∧ Below blk W0 w') := by
        have h := swapRange_c blk N cap cv P' I [] J S' W0 wr P'.length m j rfl (by simp; omega) (by omega) (by omega) (by simp; omega) hNs (by simpa using hbx) HW.out
        rw [show ((P'.length : Nat) : Int) = (m : Int) - j by omega, List.nil_append, hFF] at h
        exact h
      subst hij
      clear hI hJ hP hI0 hJ0 hNN hbx hFF
      go_wp2_with (first | (go_at_call 32; (with_reducible refine CS.out.mono ?_); rintro e W2 ⟨⟨u, rfl⟩, hx2, hb2⟩; have X2 := Lib.hid hx2; have B2 := Lib.hid hb2; clear hx2 hb2))
      go_end0
      exact ⟨⟨_, rfl⟩, X2.out, B2.out⟩
    · have hne : ((i : Int) != (j : Int)) = true := by simp; omega
      by_cases hgt : j < i
      · have hgi : (i : Int) > j := by omega
        have CS : Hid (Calls Try.prog 32 #[.slice (some ⟨blk, 0, none⟩) N cap, .int .i64 ((m : Int) - i), .int .i64 m, .int .i64 j, cv] wr fun e w' => (∃ u, e = .returned u) ∧ BoxL w' blk (natI (P' ++ (J ++ (I.drop j ++ (I.take j ++ S'))))) ∧ Below blk W0 w') := by
          have h := swapRange_c blk N cap cv P' (I.take j) (I.drop j) J S' W0 wr P'.length m j rfl (by simp [List.length_take, List.length_drop]; omega) (by simp [List.length_take]; omega) (by omega) (by simp [List.length_take, List.length_drop]; omega) hNs (by rw [← List.append_assoc (I.take j), List.take_append_drop]; exact hbx) HW.out
          rw [show ((P'.length : Nat) : Int) = (m : Int) - i by omega] at h
          exact h
        have HR : Hid (∀ w', BoxL w' blk (natI (P' ++ (J ++ (I.drop j ++ (I.take j ++ S'))))) → ∃ P' I J S' : List Nat, I.length = i - j ∧ J.length = j ∧ P'.length + I.length = m ∧ 0 < I.length ∧ 0 < J.length ∧ P'.length + I.length + J.length + S'.length = N ∧ BoxL w' blk (natI (P' ++ (I ++ (J ++ S')))) ∧ P' ++ (J ++ (I ++ S')) = F) := fun w' hw => by
          refine ⟨P' ++ J, I.drop j, I.take j, S', by rw [List.length_drop]; omega, by rw [List.length_take]; omega, by rw [List.length_append, List.length_drop]; omega, by rw [List.length_drop]; omega, by rw [List.length_take]; omega, by rw [List.length_append, List.length_drop, List.length_take]; omega, by rw [List.append_assoc]; exact hw, ?_⟩
          rw [List.append_assoc, ← List.append_assoc (I.take j), List.take_append_drop]
          exact hFF
        have hij2 : (i : Int) - j = ((i - j : Nat) : Int) := by omega
        clear hI hJ hP hI0 hJ0 hNN hbx hFF hij
        go_wp2_with (first | (go_at_call 32; (with_reducible refine CS.out.mono ?_); rintro e W2 ⟨⟨u, rfl⟩, hx2, hb2⟩; have X2 := Lib.hid hx2; have B2 := Lib.hid hb2; clear hx2 hb2))
        go_roundg (i - j + j)
        case measure => have := HN.out; omega
        case rel => exact ⟨i - j, j, by first | rfl | go_num, rfl, by omega, by omega, rfl, Lib.hid (HR.out _ X2.out), B2⟩
      · have hgi : ¬ ((i : Int) > j) := by omega
        have CS : Hid (Calls Try.prog 32 #[.slice (some ⟨blk, 0, none⟩) N cap, .int .i64 ((m : Int) - i), .int .i64 ((m : Int) + j - i), .int .i64 i, cv] wr fun e w' => (∃ u, e = .returned u) ∧ BoxL w' blk (natI (P' ++ (J.drop (j - i) ++ (J.take (j - i) ++ (I ++ S'))))) ∧ Below blk W0 w') := by
          have h := swapRange_c blk N cap cv P' I (J.take (j - i)) (J.drop (j - i)) S' W0 wr P'.length (m + j - i) i rfl (by simp [List.length_take]; omega) (by omega) (by simp [List.length_drop]; omega) (by simp [List.length_take, List.length_drop]; omega) hNs (by rw [← List.append_assoc (J.take (j - i)), List.take_append_drop]; exact hbx) HW.out
          rw [show ((P'.length : Nat) : Int) = (m : Int) - i by omega, show ((m + j - i : Nat) : Int) = (m : Int) + j - i by omega] at h
          exact h
        have HR : Hid (∀ w', BoxL w' blk (natI (P' ++ (J.drop (j - i) ++ (J.take (j - i) ++ (I ++ S'))))) → ∃ P' I J S' : List Nat, I.length = i ∧ J.length = j - i ∧ P'.length + I.length = m ∧ 0 < I.length ∧ 0 < J.length ∧ P'.length + I.length + J.length + S'.length = N ∧ BoxL w' blk (natI (P' ++ (I ++ (J ++ S')))) ∧ P' ++ (J ++ (I ++ S')) = F) := fun w' hw => by
          refine ⟨P', J.drop (j - i), J.take (j - i), I ++ S', by rw [List.length_drop]; omega, by rw [List.length_take]; omega, by rw [List.length_drop]; omega, by rw [List.length_drop]; omega, by rw [List.length_take]; omega, by rw [List.length_append, List.length_drop, List.length_take]; omega, hw, ?_⟩
          rw [← List.append_assoc (J.take (j - i)), List.take_append_drop]
          exact hFF
        have hij2 : (j : Int) - i = ((j - i : Nat) : Int) := by omega
        clear hI hJ hP hI0 hJ0 hNN hbx hFF hij
        go_wp2_with (first | (go_at_call 32; (with_reducible refine CS.out.mono ?_); rintro e W2 ⟨⟨u, rfl⟩, hx2, hb2⟩; have X2 := Lib.hid hx2; have B2 := Lib.hid hb2; clear hx2 hb2))
        go_roundg (i + (j - i))
        case measure => have := HN.out; omega
        case rel => exact ⟨i, j - i, rfl, by first | rfl | go_num, by omega, by omega, rfl, Lib.hid (HR.out _ X2.out), B2⟩
end Go.Proofs.Ytmeilhjloeghhaa
namespace Go.Proofs.Ytmeilhjloeghhaa
open Go.RowKit

/-- the order's comparing function, wherever the list that it reads lies -/
def CmpC (ks : Nat → Option Int) (N bx blk : Nat) (W0 : World) : Prop := ∀ W, Below blk W0 W → ∀ i k, i < N → k < N →
  Calls Try.prog 25 #[.int .i64 i, .int .i64 k, .pointer (some ⟨bx, 0, none⟩)] W fun e w' => e = .returned (.int .i64 (cmpK (ks i) (ks k))) ∧ ∃ m, w' = W.drewN m
def cmpV (bx : Nat) : Value := .func (.func 25) #[] #[.pointer (some ⟨bx, 0, none⟩)]
theorem CmpC.at {ks : Nat → Option Int} {N bx blk : Nat} {W0 W : World} (h : CmpC ks N bx blk W0) (hW : Below blk W0 W) {i k : Nat} (hi : i < N) (hk : k < N) : ∀ n,
    Calls Try.prog 25 #[.int .i64 i, .int .i64 k, .pointer (some ⟨bx, 0, none⟩)] (W.drewN n) fun e w' => e = .returned (.int .i64 (cmpK (ks i) (ks k))) ∧ ∃ m, w' = W.drewN m := fun n =>
  (h _ (below_drewN hW n) i k hi hk).mono fun e w' ⟨he, m, hm⟩ => ⟨he, n + m, by rw [hm, World.drewN_drewN]⟩
theorem row_drewN {w : World} {b : Nat} {cs : List Value} (h : BoxL w b cs) (n : Nat) : BoxL (w.drewN n) b cs := by
  cases cs with
  | nil => intro j hj; simp at hj
  | cons c cs => exact h.below (below_drewN (Below.refl w.heap.size w) n) (h.lt (by simp))
theorem ins_split {P M R : List Nat} {x q : Nat} (hq : q < M.length) : P ++ (M.take (q + 1) ++ x :: (M.drop (q + 1) ++ R)) = (P ++ M.take q) ++ M[q] :: ([] ++ x :: (M.drop (q + 1) ++ R)) := by
  rw [List.take_succ_eq_append_getElem hq]; simp only [List.append_assoc, List.cons_append, List.nil_append]
theorem ins_next {P M R : List Nat} {x q : Nat} (hq : q < M.length) : P ++ (M.take q ++ x :: (M.drop q ++ R)) = (P ++ M.take q) ++ x :: ([] ++ M[q] :: (M.drop (q + 1) ++ R)) := by
  rw [List.drop_eq_getElem_cons hq]; simp only [List.append_assoc, List.cons_append, List.nil_append]
theorem ins_done {lt : Nat → Nat → Prop} {M : List Nat} {x q : Nat} (hs : M.Pairwise lt) (h1 : ∀ y ∈ M.take q, lt y x) (h2 : ∀ y ∈ M.drop q, lt x y) : (M.take q ++ x :: M.drop q).Pairwise lt ∧ (M.take q ++ x :: M.drop q).Perm (M ++ [x]) := by
  constructor
  · rw [← List.take_append_drop q M, List.pairwise_append] at hs
    refine List.pairwise_append.2 ⟨hs.1, List.pairwise_cons.2 ⟨h2, hs.2.1⟩, fun a ha b hb => ?_⟩
    rcases List.mem_cons.1 hb with rfl | hb
    · exact h1 a ha
    · exact hs.2.2 a ha b hb
  · have e : (M.take q ++ x :: M.drop q).Perm (x :: (M.take q ++ M.drop q)) := List.perm_middle
    rw [List.take_append_drop] at e
    exact e.trans (List.perm_append_comm (l₁ := [x]) (l₂ := M))
set_option maxRecDepth 100000 in
set_option maxHeartbeats 3200000 in
theorem insertion_c (ks : Nat → Option Int) (blk N cap bx : Nat) (P M S : List Nat) (W0 W : World) (a b : Nat) (ha : a = P.length) (hb : b = P.length + M.length) (hN : N = P.length + M.length + S.length) (hNs : N ≤ 4096)
    (hM : M.Pairwise (· < ·)) (hMN : ∀ x ∈ M, x < N) (hC : CmpC ks N bx blk W0) (h : BoxL W blk (natI (P ++ (M ++ S)))) (hB : Below blk W0 W) :
    Calls Try.prog 29 #[.slice (some ⟨blk, 0, none⟩) N cap, .int .i64 a, .int .i64 b, cmpV bx] W fun e w' => (∃ u, e = .returned u) ∧ (∃ M' : List Nat, M'.Perm M ∧ M'.Pairwise (ahead ks) ∧ BoxL w' blk (natI (P ++ (M' ++ S)))) ∧ Below blk W0 w' := by
  have HB := Lib.hid hB
  have HM := Lib.hid hM
  have HMN := Lib.hid hMN
  have HCC := Lib.hid hC
  have HH := Lib.hid h
  have HBL : Hid (b = a + M.length) := by show _ = _; omega
  have HAL := Lib.hid ha
  have hbN : b ≤ N := by omega
  have hab : a ≤ b := by omega
  clear h hB hM hMN hC ha hb hN
  unfold cmpV
  go_enter Try.func29, Try.ntmps29
  go_wp2
  go_loopg [8] (b + 1 - (a + 1)) (fun f s wr => ∃ i t : Nat, s = .int .i64 i ∧ i ≤ b + 1 ∧ 1 ≤ t ∧ i = a + t ∧ Hid (f = b + 1 - i) ∧ Hid (∃ L : List Nat, L.Perm (M.take t) ∧ L.Pairwise (ahead ks) ∧ BoxL wr blk (natI (P ++ (L ++ (M.drop t ++ S))))) ∧ Hid (Below blk W0 wr))
  case atStart =>
    refine ⟨a + 1, 1, by go_num, by omega, by omega, rfl, rfl, ?_, HB⟩
    refine Lib.hid ⟨M.take 1, .refl _, ?_, ?_⟩
    · cases M with
      | nil => simp
      | cons x M => simp
    · rw [← List.append_assoc (M.take 1), List.take_append_drop]; exact HH.out
  case round =>
    obtain ⟨i, t, rfl, hi, ht1, hit, HN, HX, HW⟩ := hrel
    obtain ⟨wo, rfl⟩ : ∃ wo, wo = wr := ⟨_, rfl⟩
    by_cases hlt : i < b
    · have hli : (i : Int) < b := by omega
      obtain ⟨L, hLp, hLs, hbx⟩ := HX.out
      have htM : t < M.length := by have := HBL.out; omega
      have hLl : L.length = t := by rw [hLp.length_eq, List.length_take]; omega
      obtain ⟨x, hx⟩ : ∃ x, x = M[t] := ⟨_, rfl⟩
      have hdr : M.drop t = x :: M.drop (t + 1) := by rw [hx]; exact List.drop_eq_getElem_cons htM
      have HLX : Hid (∀ y ∈ L, y < x) := fun y hy => by
        have h1 := hLp.mem_iff.1 hy
        have h2 := HM.out
        rw [← List.take_append_drop t M, List.pairwise_append] at h2
        exact h2.2.2 y h1 x (by rw [hdr]; exact List.mem_cons_self)
      have HLN : Hid (∀ y ∈ L, y < N) := fun y hy => HMN.out y (List.mem_of_mem_take (hLp.mem_iff.1 hy))
      have hxN : x < N := HMN.out x (by rw [hx]; exact List.getElem_mem htM)
      have HTK : Hid (M.take (t + 1) = M.take t ++ [x]) := by show _ = _; rw [hx]; exact List.take_succ_eq_append_getElem htM
      obtain ⟨R, hR⟩ : ∃ R, R = M.drop (t + 1) ++ S := ⟨_, rfl⟩
      have HB0 : Hid (BoxL wo blk (natI (P ++ (L.take t ++ x :: (L.drop t ++ R))))) := by
        show BoxL _ _ _
        rw [List.take_of_length_le (by omega), List.drop_of_length_le (by omega), hR]
        rw [hdr] at hbx
        exact hbx
      have HLP := Lib.hid hLp
      have HLS := Lib.hid hLs
      have HLL := Lib.hid hLl
      have HR := Lib.hid hR
      have hit4 : t ≤ 4096 := by omega
      have HIT := Lib.hid hit
      clear hbx hLp hLs hLl hR hdr hx HX hit
      go_upto_region 4 with fail
      go_loopg [9] t (fun f s wr => ∃ q j : Nat, q ≤ t ∧ s = .int .i64 j ∧ j = a + q ∧ Hid (f = q) ∧ Hid (∀ y ∈ L.drop q, ahead ks x y) ∧ Hid (BoxL wr blk (natI (P ++ (L.take q ++ x :: (L.drop q ++ R))))) ∧ Hid (Below blk W0 wr))
      case atStart => exact ⟨t, i, by omega, rfl, HIT.out, rfl, Lib.hid (fun y hy => by rw [List.drop_of_length_le (Nat.le_of_eq HLL.out)] at hy; cases hy), HB0, HW⟩
      case round =>
        obtain ⟨q, j, hq, rfl, hj, HF, HA, HBX, HBW⟩ := hrel
        cases q with
        | zero =>
          have hja : ¬ ((j : Int) > a) := by omega
          have HNX : Hid (∀ n, ∃ L' : List Nat, L'.Perm (M.take (t + 1)) ∧ L'.Pairwise (ahead ks) ∧ BoxL (wr.drewN n) blk (natI (P ++ (L' ++ (M.drop (t + 1) ++ S))))) := fun n => by
            obtain ⟨d1, d2⟩ := ins_done (x := x) (q := 0) HLS.out (by simp) HA.out
            refine ⟨L.take 0 ++ x :: L.drop 0, ?_, d1, ?_⟩
            · rw [HTK.out]; exact d2.trans (List.Perm.append_right _ HLP.out)
            · rw [← HR.out, List.append_assoc, List.cons_append]; exact row_drewN HBX.out n
          clear hj
          go_upto_region 4 with fail
          go_quiet (fail)
          go_wp2
          go_roundg (b + 1 - (i + 1))
          case measure => have := HN.out; omega
          case rel => exact ⟨i + 1, t + 1, by go_num, by omega, by omega, by have := HIT.out; omega, rfl, Lib.hid (HNX.out _), Lib.hid (below_drewN HBW.out _)⟩
        | succ q =>
          have hqL : q < L.length := by rw [HLL.out]; omega
          have hja : (j : Int) > a := by omega
          obtain ⟨j1, hj1⟩ : ∃ j1, j1 = a + q := ⟨_, rfl⟩
          have e1 : (j : Int) - 1 = (j1 : Int) := by omega
          have hsp := ins_split (P := P) (M := L) (R := R) (x := x) hqL
          have hPA : j1 = (P ++ L.take q).length := by have := HAL.out; rw [List.length_append, List.length_take]; omega
          have hPB : j = (P ++ L.take q).length + 1 + ([] : List Nat).length := by rw [← hPA]; simp; omega
          obtain ⟨c1, f1⟩ := HBX.out.get j1 (natI_at hsp hPA)
          obtain ⟨c2, f2⟩ := HBX.out.get j (natI_at2 hsp hPB)
          have HY := Lib.hid (HLX.out _ (List.getElem_mem hqL))
          have hyN := HLN.out _ (List.getElem_mem hqL)
          have HNX := Lib.hid (ins_next (P := P) (M := L) (R := R) (x := x) hqL)
          have HDR : Hid (L.drop q = L[q] :: L.drop (q + 1)) := List.drop_eq_getElem_cons hqL
          have HTL : Hid (∀ z ∈ L.take (q + 1), z = L[q] ∨ ahead ks z L[q]) := fun z hz => take_le HLS.out hqL hz
          have HSP := Lib.hid hsp
          have HPA := Lib.hid hPA
          have HPB := Lib.hid hPB
          clear hsp hPA hPB
          generalize L[q] = y at *
          have CO := Lib.hid (HCC.out.at HBW.out hxN hyN)
          have HCL : Hid (cmpK (ks x) (ks y) < 0 ↔ ahead ks x y) := (less_cmp _ _).trans (ahead_gt HY.out).symm
          have HCN : Hid (¬ cmpK (ks x) (ks y) < 0 → ahead ks y x) := fun h => ahead_le HY.out (by
            cases hh : lessK (ks x) (ks y) with
            | false => rfl
            | true => exact absurd ((less_cmp _ _).2 hh) h)
          generalize cmpK (ks x) (ks y) = c at *
          have hjN : (j : Int) < N := by have := HIT.out; omega
          have hj1N : (j1 : Int) < N := by have := HIT.out; omega
          have HJ := Lib.hid hj
          have HJ1 := Lib.hid hj1
          have hj1j : j1 ≠ j := by omega
          clear hj hj1
          by_cases hc : c < 0
          · have HAX := Lib.hid (HCL.out.1 hc)
            go_upto_region 4 with fail
            go_quiet ((go_at_call 25; exact CO.out _))
            obtain ⟨w2, hw2⟩ : ∃ w2, w2 = wr.drewN nq := ⟨_, rfl⟩
            have HB2 : Hid (BoxL w2 blk (natI (P ++ (L.take (q + 1) ++ x :: (L.drop (q + 1) ++ R))))) := by rw [hw2]; exact row_drewN HBX.out _
            have HW2 : Hid (Below blk W0 w2) := by rw [hw2]; exact below_drewN HBW.out _
            rw [← hw2]
            clear c1 c2 f1 f2 hw2
            obtain ⟨c1, f1⟩ := HB2.out.get j1 (natI_at HSP.out HPA.out)
            obtain ⟨c2, f2⟩ := HB2.out.get j (natI_at2 HSP.out HPB.out)
            have hz : (w2.setCell ⟨blk, j, none⟩ (.int .i64 y)).cell? ⟨blk, j1, none⟩ = some (.int .i64 y) := by
              rw [World.cell?_setCell_other _ _ _ _ (fun he => by injection he; omega)]; exact c1
            have HNW : Hid (∀ W, W = ((w2.setCell ⟨blk, j, none⟩ (.int .i64 y)).setCell ⟨blk, j1, none⟩ (.int .i64 x)).drew → BoxL W blk (natI (P ++ (L.take q ++ x :: (L.drop q ++ R)))) ∧ Below blk W0 W) := fun W hW => by
              subst hW
              rw [HNX.out]
              exact ⟨row_swap2 HB2.out HSP.out HPA.out HPB.out, (below_two HW2.out (Nat.le_refl _) _ _).drew⟩
            go_upto_region 6 with fail
            go_region
            all_goals
              go_wp2
              go_roundg q
              case measure => have := HF.out; omega
              case rel => exact ⟨q, j1, by omega, by first | rfl | go_num, HJ1.out, rfl, Lib.hid (fun z hz => by rw [HDR.out] at hz; rcases List.mem_cons.1 hz with rfl | hz; exact HAX.out; exact HA.out z hz), Lib.hid (HNW.out _ rfl).1, Lib.hid (HNW.out _ rfl).2⟩
          · have HAX := Lib.hid (HCN.out hc)
            have HNX2 : Hid (∀ n, ∃ L' : List Nat, L'.Perm (M.take (t + 1)) ∧ L'.Pairwise (ahead ks) ∧ BoxL (wr.drewN n) blk (natI (P ++ (L' ++ (M.drop (t + 1) ++ S))))) := fun n => by
              obtain ⟨d1, d2⟩ := ins_done (x := x) (q := q + 1) HLS.out (fun z hz => by
                rcases HTL.out z hz with rfl | h
                · exact HAX.out
                · exact ahead_trans h HAX.out) HA.out
              refine ⟨L.take (q + 1) ++ x :: L.drop (q + 1), ?_, d1, ?_⟩
              · rw [HTK.out]; exact d2.trans (List.Perm.append_right _ HLP.out)
              · rw [← HR.out, List.append_assoc, List.cons_append]; exact row_drewN HBX.out n
            go_upto_region 4 with fail
            go_quiet ((go_at_call 25; exact CO.out _))
            go_wp2
            go_roundg (b + 1 - (i + 1))
            case measure => have := HN.out; omega
            case rel => exact ⟨i + 1, t + 1, by go_num, by omega, by omega, by have := HIT.out; omega, rfl, Lib.hid (HNX2.out _), Lib.hid (below_drewN HBW.out _)⟩
    · have hli : ¬ ((i : Int) < b) := by omega
      obtain ⟨L, hLp, hLs, hbx⟩ := HX.out
      have hE : ∃ M' : List Nat, M'.Perm M ∧ M'.Pairwise (ahead ks) ∧ BoxL wo blk (natI (P ++ (M' ++ S))) := by
        have hl : M.length ≤ t := by have := HBL.out; omega
        rw [List.take_of_length_le hl] at hLp
        rw [List.drop_of_length_le hl, List.nil_append] at hbx
        exact ⟨L, hLp, hLs, hbx⟩
      have HE := Lib.hid hE
      clear hE hLp hLs hbx HX
      go_wp2
      go_end0
      exact ⟨⟨_, rfl⟩, HE.out, HW.out⟩
end Go.Proofs.Ytmeilhjloeghhaa
