/-
  coneyref14.normal, .Norm, .Meet, .Join, .Minus, .Compl, walked.
-/
import Derived.Test.YtmmogifmogdegaaRefA
namespace Go.Proofs.Ytmmogifmogdegaa
open Go.RowKit

theorem cellsR_one' (rs : List Rg) : ∀ u ∈ cellsR rs, u.oneCell' = true := cellsR_one rs

set_option maxRecDepth 100000 in
set_option maxHeartbeats 1600000 in
theorem normal_c (va : Value) (a : List Rg) (w : World) (ha : RgAt w va a) (hla : a.length ≤ 4096) :
    Calls Try.prog 44 #[va] w fun e w' => ∃ r : Bool, e = .returned (.bool r) ∧ (r = true → Normal a) ∧ ∃ q, w' = w.drewN q := by
  obtain ⟨ao, cap, rfl, _⟩ := ha.shape
  have HA := Lib.hid ha
  clear ha
  go_enter Try.func44, Try.ntmps44
  go_wp2
  go_loopw [3] (fun s wr => ∃ k q : Nat, k ≤ a.length ∧ s = .int .i64 k ∧ Normal (a.take k) ∧ wr = w.drewN q) (fun s _ => a.length - (intOf s).toNat)
  case atStart => exact ⟨0, 0, by omega, rfl, trivial, rfl⟩
  case round =>
    obtain ⟨k, q, hk, rfl, hN, rfl⟩ := hrel
    by_cases hlt : k < a.length
    · obtain ⟨b, off, c', he, hcap, hbs, hc⟩ := RgAt.at HA.out (by omega)
      simp only [Value.slice.injEq, true_and] at he
      obtain ⟨rfl, rfl⟩ := he
      obtain ⟨c1, c2⟩ := hc k hlt
      have HT : Hid (a.take (k + 1) = a.take k ++ [a[k]]) := List.take_succ_eq_append_getElem hlt
      obtain ⟨r, hr⟩ : ∃ r, r = a[k] := ⟨_, rfl⟩
      rw [← hr] at c1 c2 HT
      clear hr
      have HN := Lib.hid hN
      clear hN
      by_cases h1 : r.1 > r.2
      · have g1 : decide (r.1 > r.2) = true := by simpa using h1
        clear hc
        go_wp2
        go_quiet (fail)
        go_wp2
        go_ret
        exact ⟨_, rfl, (fun h => by cases h), _, World.drewN_drewN _ _ _⟩
      have g1 : decide (r.1 > r.2) = false := by simpa using h1
      by_cases h2 : r.1 < -200
      · have g2 : decide (r.1 < -200) = true := by simpa using h2
        clear hc
        go_wp2
        go_quiet (fail)
        go_wp2
        go_ret
        exact ⟨_, rfl, (fun h => by cases h), _, World.drewN_drewN _ _ _⟩
      have g2 : decide (r.1 < -200) = false := by simpa using h2
      by_cases h3 : r.2 > 200
      · have g3 : decide (r.2 > 200) = true := by simpa using h3
        clear hc
        go_wp2
        go_quiet (fail)
        go_wp2
        go_ret
        exact ⟨_, rfl, (fun h => by cases h), _, World.drewN_drewN _ _ _⟩
      have g3 : decide (r.2 > 200) = false := by simpa using h3
      rcases Nat.eq_zero_or_pos k with rfl | hk0
      · clear hc
        have g4 : decide (((0 : Nat) : Int) > 0) = false := by simp
        have HK : Hid (Normal (a.take (0 + 1))) := by
          show Normal _
          rw [HT.out]
          exact normal_snoc.2 ⟨HN.out, by omega, by omega, by omega, fun q hq => by simp at hq⟩
        rw [Nat.zero_mul, Nat.add_zero] at c1 c2
        go_wp2
        go_quiet (fail)
        go_wp2
        exact ⟨⟨1, q + nq, by omega, rfl, HK.out, rfl⟩, by simp [intOf]; omega⟩
      · obtain ⟨m, rfl⟩ : ∃ m, k = m + 1 := ⟨k - 1, by omega⟩
        obtain ⟨d1, d2⟩ := hc m (by omega)
        obtain ⟨s, hs⟩ : ∃ s, s = a[m] := ⟨_, rfl⟩
        rw [← hs] at d1 d2
        have HG : Hid ((a.take (m + 1)).getLast? = some s) := by
          show _ = _
          rw [List.take_succ_eq_append_getElem (by omega), List.getLast?_concat, hs]
        clear hc hs d1
        have g4 : decide (((m + 1 : Nat) : Int) > 0) = true := by simp
        by_cases h5 : r.1 - 1 ≤ s.2
        · have g5 : decide (r.1 - 1 ≤ s.2) = true := by simpa using h5
          go_wp2
          go_quiet (fail)
          go_wp2
          go_ret
          exact ⟨_, rfl, (fun h => by cases h), _, World.drewN_drewN _ _ _⟩
        · have g5 : decide (r.1 - 1 ≤ s.2) = false := by simpa using h5
          have HK : Hid (Normal (a.take (m + 1 + 1))) := by
            show Normal _
            rw [HT.out]
            exact normal_snoc.2 ⟨HN.out, by omega, by omega, by omega, fun q hq => by rw [HG.out] at hq; cases hq; exact h5⟩
          go_wp2
          go_quiet (fail)
          go_wp2
          exact ⟨⟨m + 1 + 1, q + nq, by omega, by go_num, HK.out, rfl⟩, by simp [intOf]; omega⟩
    · obtain rfl : k = a.length := by omega
      rw [List.take_length] at hN
      go_wp2
      go_ret
      exact ⟨_, rfl, (fun _ => hN), _, rfl⟩

theorem way1 (a b : List Rg) : canon (wayS 1 a b) = meetL a b := by unfold meetL; exact canon_congr fun n _ _ => by simp [wayS]
theorem way2 (a b : List Rg) : canon (wayS 2 a b) = joinL a b := by unfold joinL; exact canon_congr fun n _ _ => by simp [wayS]
theorem way3 (a b : List Rg) : canon (wayS 3 a b) = minusL a b := by unfold minusL; exact canon_congr fun n _ _ => by simp [wayS]
theorem way2nil (a : List Rg) : canon (wayS 2 a []) = norm a := by rw [way2]; unfold joinL norm; exact canon_congr fun n _ _ => by rw [memL_nil, Bool.or_false]

set_option maxRecDepth 100000 in
set_option maxHeartbeats 800000 in
theorem refNorm_n (va : Value) (a : List Rg) (w : World) (ha : RgAt w va a) (hla : a.length ≤ 4096) :
    Calls Try.prog 28 #[va] w (RetN (norm a) w) := by
  obtain ⟨i0, hi, hz0, hz1, hz2⟩ := info_parts Try.infoRg
  obtain ⟨ao, cap, rfl, _⟩ := ha.shape
  have HA := Lib.hid ha
  have CN := Lib.hid (normal_c _ a w ha hla)
  have CL : Hid (∀ W, Below w.heap.size w W → Calls Try.prog 35 #[.slice ao a.length cap, .slice none 0 0, .int .i64 2] W (RetN (norm a) W)) := fun W h => by
    have := list_n _ (.slice none 0 0) a [] 2 (by simp) W (ha.below h) RgAt.nil hla (by simp)
    rwa [way2nil] at this
  have HNN : Hid (Normal a → norm a = a) := norm_of_normal
  clear ha
  generalize norm a = na at CL HNN ⊢
  go_enter Try.func28, Try.ntmps28
  go_wp2_with (first
    | (go_at_call 44; (with_reducible refine CN.out.mono ?_); rintro e w' ⟨r, rfl, hr, q, rfl⟩; have HR := Lib.hid hr; clear hr; cases r)
    | (at_builtin; refine wpList_append_sl rfl (.tmp 7) (.tmp 8) 29 rfl w.heap.size 60 i0 (.agg #[.int .i64 0, .int .i64 0]) 2 16 Try.underlying29 hi hz0 hz1 hz2 rfl (by decide) _ 0 [] rfl (World.ownsRow_made _ #[] 0 (Nat.le_refl _) (by decide) rfl) _ _ _ rfl (SlAt.alloc (SlAt.drewN HA.out _) _) (cellsR_one _) (by omega) (by simp) ?_; intro v1 w1 o1 b1 g1; clear g1)
    | (go_at_call 35; (with_reducible refine (CL.out _ (below_drewN (Below.refl _ _) _)).mono ?_); rintro e W ⟨a1, c1, rfl, hr1, hb1, hn1⟩))
  · go_ret
    exact ⟨_, _, rfl, hr1, (below_drewN (Below.refl _ _) _).trans hb1, hn1⟩
  · go_ret
    have hn := HNN.out (HR.out (by trivial))
    subst hn
    rw [Nat.zero_add, List.nil_append] at o1
    have hb : Below w.heap.size w w1 := by first | exact (((below_drewN (Below.refl _ _) _).alloc (Nat.le_refl _) _).trans b1) | exact ((below_drewN ((Below.refl _ _).alloc (Nat.le_refl _) _) _).trans b1)
    obtain ⟨oa, oc, rfl, _⟩ := (SlAt.of_own o1).shape
    exact ⟨_, _, rfl, RgAt.own o1, hb, fun b h => (o1.lt b h).1⟩

theorem refNorm_c (va : Value) (a : List Rg) (w : World) (ha : RgAt w va a) (hla : a.length ≤ 4096) :
    Calls Try.prog 28 #[va] w (RetR (norm a) w) := (refNorm_n va a w ha hla).mono fun _ _ h => h.toR
theorem refMeet_n (va vb : Value) (a b : List Rg) (w : World) (ha : RgAt w va a) (hb : RgAt w vb b) (hla : a.length ≤ 4096) (hlb : b.length ≤ 4096) :
    Calls Try.prog 19 #[va, vb] w (RetN (meetL a b) w) := by
  obtain ⟨ao, cap, rfl, _⟩ := ha.shape
  obtain ⟨ao2, cap2, rfl, _⟩ := hb.shape
  have C := Lib.hid (list_n _ _ a b 1 (by simp) w ha hb hla hlb)
  rw [way1] at C
  clear ha hb
  generalize meetL a b = me at C ⊢
  go_enter Try.func19, Try.ntmps19
  go_wp2_with (go_at_call 35; (with_reducible refine C.out.mono ?_); rintro e W ⟨a1, c1, rfl, hr1, hb1, hn1⟩)
  go_ret
  exact ⟨_, _, rfl, hr1, hb1, hn1⟩
theorem refMeet_c (va vb : Value) (a b : List Rg) (w : World) (ha : RgAt w va a) (hb : RgAt w vb b) (hla : a.length ≤ 4096) (hlb : b.length ≤ 4096) :
    Calls Try.prog 19 #[va, vb] w (RetR (meetL a b) w) := (refMeet_n va vb a b w ha hb hla hlb).mono fun _ _ h => h.toR
theorem refMinus_n (va vb : Value) (a b : List Rg) (w : World) (ha : RgAt w va a) (hb : RgAt w vb b) (hla : a.length ≤ 4096) (hlb : b.length ≤ 4096) :
    Calls Try.prog 20 #[va, vb] w (RetN (minusL a b) w) := by
  obtain ⟨ao, cap, rfl, _⟩ := ha.shape
  obtain ⟨ao2, cap2, rfl, _⟩ := hb.shape
  have C := Lib.hid (list_n _ _ a b 3 (by simp) w ha hb hla hlb)
  rw [way3] at C
  clear ha hb
  generalize minusL a b = me at C ⊢
  go_enter Try.func20, Try.ntmps20
  go_wp2_with (go_at_call 35; (with_reducible refine C.out.mono ?_); rintro e W ⟨a1, c1, rfl, hr1, hb1, hn1⟩)
  go_ret
  exact ⟨_, _, rfl, hr1, hb1, hn1⟩
theorem refMinus_c (va vb : Value) (a b : List Rg) (w : World) (ha : RgAt w va a) (hb : RgAt w vb b) (hla : a.length ≤ 4096) (hlb : b.length ≤ 4096) :
    Calls Try.prog 20 #[va, vb] w (RetR (minusL a b) w) := (refMinus_n va vb a b w ha hb hla hlb).mono fun _ _ h => h.toR
theorem rgAt_lit2 (w : World) (r : Rg) (T : TypeId) : RgAt (w.alloc (.cells #[.int .i64 r.1, .int .i64 r.2] T)) (.slice (some ⟨w.heap.size, 0, none⟩) 1 1) [r] :=
  RgAt.own (e := T) (World.ownsRow_lit (base := 0) w #[.int .i64 r.1, .int .i64 r.2] 1 (Nat.zero_le _) (by simp [maxLen]) rfl)
theorem minus_whole (a : List Rg) : minusL [(-200, 200)] a = complL a := by
  unfold minusL complL
  exact canon_congr fun n h1 h2 => by simp [memL_cons, memL_nil, h1, h2]
end Go.Proofs.Ytmmogifmogdegaa
