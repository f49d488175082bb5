/-
  The law WeighJoined, walked.
-/
import Derived.Test.YtmeilhjloeghhaaBestLaw
namespace Go.Proofs.Ytmeilhjloeghhaa
open Go.RowKit

def bsb (bs : List Nat) : Option Nat := bestI (keyAt bs) (fun _ => false) bs.length
theorem skip_nil (bs : List Nat) : bestI (keyAt bs) (skipAt []) bs.length = bsb bs := bestI_congr _ (fun j _ => ⟨rfl, by simp [skipAt]⟩)
theorem keyAt_l (al bs : List Nat) (j : Nat) (h : j < al.length) : keyAt (al ++ bs) j = keyAt al j := by unfold keyAt; rw [List.getD_eq_getElem?_getD, List.getD_eq_getElem?_getD, List.getElem?_append_left h]
theorem keyAt_r (al bs : List Nat) (j : Nat) : keyAt (al ++ bs) (al.length + j) = keyAt bs j := by
  unfold keyAt; rw [List.getD_eq_getElem?_getD, List.getD_eq_getElem?_getD, List.getElem?_append_right (by omega), show al.length + j - al.length = j by omega]
theorem bsb_joined (al bs : List Nat) : bsb (al ++ bs) = match bsb al, bsb bs with
      | none, none => none
      | some a, none => some a
      | none, some b => some (al.length + b)
      | some a, some b => if lessK (keyAt bs b) (keyAt al a) = true then some (al.length + b) else some a := by
  unfold bsb
  rw [List.length_append, best_joined]
  have h1 : bestI (keyAt (al ++ bs)) (fun _ => false) al.length = bestI (keyAt al) (fun _ => false) al.length := bestI_congr _ (fun j hj => ⟨keyAt_l _ _ _ hj, rfl⟩)
  have h2 : bestI (fun j => keyAt (al ++ bs) (al.length + j)) (fun _ => false) bs.length = bestI (keyAt bs) (fun _ => false) bs.length := bestI_congr _ (fun j _ => ⟨keyAt_r _ _ _, rfl⟩)
  rw [h1, h2]
  cases ha : bestI (keyAt al) (fun _ => false) al.length with
  | none => cases bestI (keyAt bs) (fun _ => false) bs.length <;> rfl
  | some a =>
    have := bestI_lt _ _ _ _ ha
    cases bestI (keyAt bs) (fun _ => false) bs.length with
    | none => rfl
    | some b => simp only; rw [keyAt_r, keyAt_l _ _ _ this]

theorem Try.infoFloat : (Try.prog.info? 22).map (fun i => (i.zero, i.size, i.bytes)) = some (some (.float .f64 0), 1, 8) := by kernel_rfl
theorem fl_one (l : List Nat) : ∀ u ∈ l.map (Value.float .f64), u.oneCell' = true := by
  intro u hu; obtain ⟨k, _, rfl⟩ := List.mem_map.1 hu; rfl

theorem join_call {P : Program} {f : FuncId} {args : Array Value} {w w2 W : World} {x : Ending} (h : Calls P f args W fun e w' => e = x ∧ Below W.heap.size W w') (hB : Below w.heap.size w W) (hC : Below w2.heap.size w2 W) :
    Calls P f args W fun e w' => e = x ∧ Below w.heap.size w w' ∧ Below w2.heap.size w2 w' :=
  h.mono fun _ _ ⟨he, hb⟩ => ⟨he, hB.trans (hb.mono hB.size), hC.trans (hb.mono hC.size)⟩
theorem quiet_same0 {P : Program} {f : FuncId} {args : Array Value} {w W : World} {v : Value} (hW : ∃ m, W = w.drewN m)
    (h : Calls P f args W fun e w' => e = .returned v ∧ W = w') : Calls P f args W fun e w'' => e = .returned v ∧ ∃ m, w'' = w.drewN m :=
  h.mono fun _ _ ⟨he, hw⟩ => ⟨he, by rw [← hw]; exact hW⟩
theorem best_c (v : Value) (bs : List Nat) (w : World) (h : FlAt w v bs) (hl : bs.length ≤ 4096) :
    Calls Try.prog 12 #[v, .slice none 0 0] w fun e w' => e = .returned (.int .i64 (toI (bsb bs))) ∧ Below w.heap.size w w' := by
  rw [← skip_nil]; exact best_any v _ bs [] w h SlAt.nil hl (by decide)
theorem refBest_c (v : Value) (bs : List Nat) (w : World) (h : FlAt w v bs) (hl : bs.length ≤ 4096) :
    Calls Try.prog 13 #[v, .slice none 0 0] w fun e w' => e = .returned (.int .i64 (toI (bsb bs))) ∧ Below w.heap.size w w' := by
  rw [← skip_nil, ← best_plain]; exact refBest_any v _ bs [] w h SlAt.nil hl (by decide)

set_option maxHeartbeats 3200000 in
theorem weighJoined_any (va vb : Value) (al bs : List Nat) (w : World) (ha : FlAt w va al) (hb : FlAt w vb bs) :
    Calls Try.prog 5 #[va, vb] w fun e w' => e = .returned (.bool true) ∧ Below w.heap.size w w' := by
  obtain ⟨i0, hi, hz0, hz1, hz2⟩ := info_parts Try.infoFloat
  obtain ⟨a0, c0, rfl, _⟩ := ha.1.shape
  obtain ⟨a1, c1, rfl, _⟩ := hb.1.shape
  by_cases h1 : 128 < al.length
  · go_enter Try.func5, Try.ntmps5
    go_wp2
    go_ret
    exact ⟨rfl, Below.refl _ _⟩
  by_cases h2 : 128 < bs.length
  · go_enter Try.func5, Try.ntmps5
    go_wp2
    go_ret
    exact ⟨rfl, Below.refl _ _⟩
  have hla : al.length ≤ 4096 := by omega
  have hlb : bs.length ≤ 4096 := by omega
  have hlc : (al ++ bs).length ≤ 4096 := by simp; omega
  have CA : Hid (∀ W, Below w.heap.size w W → Calls Try.prog 12 #[.slice a0 al.length c0, .slice none 0 0] W fun e w' => e = .returned (.int .i64 (toI (bsb al))) ∧ Below W.heap.size W w') := fun W h => best_c _ _ W (ha.below h) hla
  have CB : Hid (∀ W, Below w.heap.size w W → Calls Try.prog 12 #[.slice a1 bs.length c1, .slice none 0 0] W fun e w' => e = .returned (.int .i64 (toI (bsb bs))) ∧ Below W.heap.size W w') := fun W h => best_c _ _ W (hb.below h) hlb
  have RA : Hid (∀ W, Below w.heap.size w W → Calls Try.prog 13 #[.slice a0 al.length c0, .slice none 0 0] W fun e w' => e = .returned (.int .i64 (toI (bsb al))) ∧ Below W.heap.size W w') := fun W h => refBest_c _ _ W (ha.below h) hla
  have RB : Hid (∀ W, Below w.heap.size w W → Calls Try.prog 13 #[.slice a1 bs.length c1, .slice none 0 0] W fun e w' => e = .returned (.int .i64 (toI (bsb bs))) ∧ Below W.heap.size W w') := fun W h => refBest_c _ _ W (hb.below h) hlb
  have HA := Lib.hid ha
  have HB := Lib.hid hb
  have hJ := Lib.hid (bsb_joined al bs)
  clear ha hb
  have hX : ∀ a, bsb al = some a → a < al.length := fun a h => bestI_lt _ _ _ _ h
  have hY : ∀ b, bsb bs = some b → b < bs.length := fun a h => bestI_lt _ _ _ _ h
  have HX := Lib.hid hX
  have HY := Lib.hid hY
  clear hX hY
  go_enter Try.func5, Try.ntmps5
  go_wp2_with (first
    | (at_builtin; refine wpList_append_sl rfl (.tmp 18) (.tmp 19) 25 rfl w.heap.size 22 i0 (.float .f64 0) 1 8 Try.underlying25 hi hz0 hz1 hz2 rfl (by decide) _ 0 [] rfl (World.ownsRow_made w #[] 0 (Nat.le_refl _) (by decide) rfl) _ _ _ rfl (HA.out.1.alloc _) (fl_one _) (by omega) (by simp) ?_; intro v1 w1 o1 b1 g1; clear g1; simp only [Nat.zero_add, List.nil_append] at o1; have bw1 := Lib.hid (((Below.refl w.heap.size w).alloc (Nat.le_refl _) _).trans b1); clear b1)
    | (at_builtin; refine wpList_append_sl rfl (.tmp 21) (.tmp 22) 25 rfl w.heap.size 22 i0 (.float .f64 0) 1 8 Try.underlying25 hi hz0 hz1 hz2 rfl (by decide) v1 al.length _ rfl o1 _ _ _ rfl (HB.out.below bw1.out).1 (fl_one _) (by omega) bw1.out.size ?_))
  intro v2 w2 o2 b2 g2
  have bw2 := Lib.hid (bw1.out.trans b2)
  have HL : Hid (FlAt w2 v2 (al ++ bs)) := by
    refine ⟨?_, fun b hb => ?_⟩
    · have := SlAt.of_own o2
      rwa [← List.map_append, ← List.length_append] at this
    · rcases List.mem_append.1 hb with h | h
      · exact HA.out.2 b h
      · exact HB.out.2 b h
  have CL : Hid (∀ W, Below w2.heap.size w2 W → Calls Try.prog 12 #[v2, .slice none 0 0] W fun e w' => e = .returned (.int .i64 (toI (bsb (al ++ bs)))) ∧ Below W.heap.size W w') := fun W h => best_c _ _ W (HL.out.below h) hlc
  clear g2 o2 b2 o1
  have hBw : Below w.heap.size w w2 := bw2.out
  have hBl : Below w2.heap.size w2 w2 := Below.refl _ _
  obtain ⟨z, hz⟩ : ∃ z, z = bsb (al ++ bs) := ⟨_, rfl⟩
  rw [← hz] at CL
  have HZ : Hid (z = _) := hz.trans hJ.out
  clear hz hJ
  have t0 : toI none = -1 := rfl
  have t1 : ∀ k : Nat, toI (some k) = (k : Int) := fun _ => rfl
  cases hxa : bsb al with
  | none =>
    cases hyb : bsb bs with
    | none =>
      have hz : z = none := by have := HZ.out; rw [hxa, hyb] at this; exact this
      subst hz
      rw [hxa] at CA RA
      rw [hyb] at CB RB
      clear HZ hxa hyb
      go_wp2_with (first
        | (go_at_call 12; ((with_reducible refine (join_call (CA.out _ hBw) hBw hBl).mono ?_); clear hBw hBl; rintro e w' ⟨rfl, hBw, hBl⟩))
        | (go_at_call 12; ((with_reducible refine (join_call (CB.out _ hBw) hBw hBl).mono ?_); clear hBw hBl; rintro e w' ⟨rfl, hBw, hBl⟩))
        | (go_at_call 12; ((with_reducible refine (join_call (CL.out _ hBl) hBw hBl).mono ?_); clear hBw hBl; rintro e w' ⟨rfl, hBw, hBl⟩))
        | (go_at_call 13; ((with_reducible refine (join_call (RA.out _ hBw) hBw hBl).mono ?_); clear hBw hBl; rintro e w' ⟨rfl, hBw, hBl⟩))
        | (go_at_call 13; ((with_reducible refine (join_call (RB.out _ hBw) hBw hBl).mono ?_); clear hBw hBl; rintro e w' ⟨rfl, hBw, hBl⟩)))
      go_ret
      exact ⟨ret_bool (by simp), by assumption⟩
    | some b =>
      have hz : z = some (al.length + b) := by have := HZ.out; rw [hxa, hyb] at this; exact this
      have hn : al.length = 0 := by
        have h := bestI_is (keyAt al) (fun _ => false) al.length
        unfold bsb at hxa; rw [hxa] at h
        rcases Nat.eq_zero_or_pos al.length with h0 | h0
        · exact h0
        · have := h 0 h0; cases this
      rw [hn, Nat.zero_add] at hz
      subst hz
      rw [hxa] at CA RA
      rw [hyb] at CB RB
      clear HZ hxa hyb hn
      go_wp2_with (first
        | (go_at_call 12; ((with_reducible refine (join_call (CA.out _ hBw) hBw hBl).mono ?_); clear hBw hBl; rintro e w' ⟨rfl, hBw, hBl⟩))
        | (go_at_call 12; ((with_reducible refine (join_call (CB.out _ hBw) hBw hBl).mono ?_); clear hBw hBl; rintro e w' ⟨rfl, hBw, hBl⟩))
        | (go_at_call 12; ((with_reducible refine (join_call (CL.out _ hBl) hBw hBl).mono ?_); clear hBw hBl; rintro e w' ⟨rfl, hBw, hBl⟩))
        | (go_at_call 13; ((with_reducible refine (join_call (RA.out _ hBw) hBw hBl).mono ?_); clear hBw hBl; rintro e w' ⟨rfl, hBw, hBl⟩))
        | (go_at_call 13; ((with_reducible refine (join_call (RB.out _ hBw) hBw hBl).mono ?_); clear hBw hBl; rintro e w' ⟨rfl, hBw, hBl⟩)))
      all_goals go_ret
      all_goals exact ⟨ret_bool (by simp <;> omega), by assumption⟩
  | some a =>
    cases hyb : bsb bs with
    | none =>
      have hz : z = some a := by have := HZ.out; rw [hxa, hyb] at this; exact this
      subst hz
      rw [hxa] at CA RA
      rw [hyb] at CB RB
      clear HZ hxa hyb
      go_wp2_with (first
        | (go_at_call 12; ((with_reducible refine (join_call (CA.out _ hBw) hBw hBl).mono ?_); clear hBw hBl; rintro e w' ⟨rfl, hBw, hBl⟩))
        | (go_at_call 12; ((with_reducible refine (join_call (CB.out _ hBw) hBw hBl).mono ?_); clear hBw hBl; rintro e w' ⟨rfl, hBw, hBl⟩))
        | (go_at_call 12; ((with_reducible refine (join_call (CL.out _ hBl) hBw hBl).mono ?_); clear hBw hBl; rintro e w' ⟨rfl, hBw, hBl⟩))
        | (go_at_call 13; ((with_reducible refine (join_call (RA.out _ hBw) hBw hBl).mono ?_); clear hBw hBl; rintro e w' ⟨rfl, hBw, hBl⟩))
        | (go_at_call 13; ((with_reducible refine (join_call (RB.out _ hBw) hBw hBl).mono ?_); clear hBw hBl; rintro e w' ⟨rfl, hBw, hBl⟩)))
      all_goals go_ret
      all_goals exact ⟨ret_bool (by simp <;> omega), by assumption⟩
    | some b =>
      have haa := HX.out a hxa
      have hbb := HY.out b hyb
      have hz : z = if lessK (keyAt bs b) (keyAt al a) = true then some (al.length + b) else some a := by have := HZ.out; rw [hxa, hyb] at this; exact this
      rw [hxa] at CA RA
      rw [hyb] at CB RB
      obtain ⟨ba, oa, ca', he, _, _, hca⟩ := FlAt.at HA.out (by omega)
      simp only [Value.slice.injEq, true_and] at he
      obtain ⟨rfl, rfl⟩ := he
      obtain ⟨bb, ob, cb', he, _, _, hcb⟩ := FlAt.at HB.out (by omega)
      simp only [Value.slice.injEq, true_and] at he
      obtain ⟨rfl, rfl⟩ := he
      have hxw : al[a] < 2 ^ 64 := HA.out.2 _ (List.getElem_mem haa)
      have hyw : bs[b] < 2 ^ 64 := HB.out.2 _ (List.getElem_mem hbb)
      have hc1 := hca a haa
      have hc2 := hcb b hbb
      obtain ⟨x, hx⟩ : ∃ x, x = al[a] := ⟨_, rfl⟩
      obtain ⟨y, hy⟩ : ∃ y, y = bs[b] := ⟨_, rfl⟩
      rw [← hx] at hc1 hxw
      rw [← hy] at hc2 hyw
      have HKx : Hid (keyAt al a = wk x) := by show _ = _; rw [keyAt, hx]; simp [haa]
      have HKy : Hid (keyAt bs b = wk y) := by show _ = _; rw [keyAt, hy]; simp [hbb]
      have HC1 := Lib.hid (fun W (h : Below w.heap.size w W) => (h.cell (p := ⟨ba, oa + a, none⟩) (World.block_lt_of_cell? w _ hc1)).trans hc1)
      have HC2 := Lib.hid (fun W (h : Below w.heap.size w W) => (h.cell (p := ⟨bb, ob + b, none⟩) (World.block_lt_of_cell? w _ hc2)).trans hc2)
      have CLs0 : Hid (∀ w, Calls Try.prog 10 #[.float .f64 y, .float .f64 x] w fun e w' => e = .returned (.bool (lessK (wk y) (wk x))) ∧ w = w') := fun w => less_any y x w hyw hxw
      clear hx hy hxw hyw hc1 hc2 hca hcb hxa hyb HZ
      rw [HKx.out, HKy.out] at hz
      cases hll : lessK (wk y) (wk x) with
      | true =>
        rw [hll] at hz
        have CLs : Hid (∀ w, Calls Try.prog 10 #[.float .f64 y, .float .f64 x] w fun e w' => e = .returned (.bool true) ∧ w = w') := fun w => by rw [← hll]; exact CLs0.out w
        have hz' : z = some (al.length + b) := hz
        subst hz'
        clear hll hz CLs0
        go_wp2_with (first
          | (go_at_call 12; ((with_reducible refine (join_call (CA.out _ hBw) hBw hBl).mono ?_); clear hBw hBl; rintro e w' ⟨rfl, hBw, hBl⟩))
          | (go_at_call 12; ((with_reducible refine (join_call (CB.out _ hBw) hBw hBl).mono ?_); clear hBw hBl; rintro e w' ⟨rfl, hBw, hBl⟩))
          | (go_at_call 12; ((with_reducible refine (join_call (CL.out _ hBl) hBw hBl).mono ?_); clear hBw hBl; rintro e w' ⟨rfl, hBw, hBl⟩))
          | (go_at_call 13; ((with_reducible refine (join_call (RA.out _ hBw) hBw hBl).mono ?_); clear hBw hBl; rintro e w' ⟨rfl, hBw, hBl⟩))
          | (go_at_call 13; ((with_reducible refine (join_call (RB.out _ hBw) hBw hBl).mono ?_); clear hBw hBl; rintro e w' ⟨rfl, hBw, hBl⟩)))
        have hc1 := HC1.out _ hBw
        have hc2 := HC2.out _ hBw
        have HBw := Lib.hid hBw
        clear hBw hBl
        go_quiet ((go_at_call 10; exact quiet_same0 ⟨_, rfl⟩ (CLs.out _)))
        go_wp2
        go_ret
        exact ⟨ret_bool (by simp), below_drewN HBw.out _⟩
      | false =>
        rw [hll] at hz
        have CLs : Hid (∀ w, Calls Try.prog 10 #[.float .f64 y, .float .f64 x] w fun e w' => e = .returned (.bool false) ∧ w = w') := fun w => by rw [← hll]; exact CLs0.out w
        have hz' : z = some a := hz
        subst hz'
        clear hll hz CLs0
        go_wp2_with (first
          | (go_at_call 12; ((with_reducible refine (join_call (CA.out _ hBw) hBw hBl).mono ?_); clear hBw hBl; rintro e w' ⟨rfl, hBw, hBl⟩))
          | (go_at_call 12; ((with_reducible refine (join_call (CB.out _ hBw) hBw hBl).mono ?_); clear hBw hBl; rintro e w' ⟨rfl, hBw, hBl⟩))
          | (go_at_call 12; ((with_reducible refine (join_call (CL.out _ hBl) hBw hBl).mono ?_); clear hBw hBl; rintro e w' ⟨rfl, hBw, hBl⟩))
          | (go_at_call 13; ((with_reducible refine (join_call (RA.out _ hBw) hBw hBl).mono ?_); clear hBw hBl; rintro e w' ⟨rfl, hBw, hBl⟩))
          | (go_at_call 13; ((with_reducible refine (join_call (RB.out _ hBw) hBw hBl).mono ?_); clear hBw hBl; rintro e w' ⟨rfl, hBw, hBl⟩)))
        have hc1 := HC1.out _ hBw
        have hc2 := HC2.out _ hBw
        have HBw := Lib.hid hBw
        clear hBw hBl
        go_quiet ((go_at_call 10; exact quiet_same0 ⟨_, rfl⟩ (CLs.out _)))
        go_wp2
        go_ret
        exact ⟨ret_bool (by simp), below_drewN HBw.out _⟩
end Go.Proofs.Ytmeilhjloeghhaa
