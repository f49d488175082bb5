/-
  lin.first, lin.atMost, walked.
-/
import Derived.Test.YtmmogifmogdegaaLin3
import Derived.Test.YtmmogifmogdegaaRefB
import Derived.Test.YtmmogifmogdegaaLinR
namespace Go.Proofs.Ytmmogifmogdegaa
open Go.RowKit

/-- the first place from which on something is so -/
def FirstIs (n : Nat) (p : Nat → Bool) (w : World) (e : Ending) (w' : World) : Prop :=
  ∃ k : Nat, k ≤ n ∧ e = .returned (.int .i64 k) ∧ (∀ i, i < k → p i = false) ∧ (∀ i, k ≤ i → i < n → p i = true) ∧ Below w.heap.size w w'

set_option maxRecDepth 100000 in
set_option maxHeartbeats 800000 in
theorem first_c (n : Nat) (hn : n ≤ 4096) (g : Nat) (lb : Array Value) (p : Nat → Bool) (hm : ∀ i j, i ≤ j → j < n → p i = true → p j = true) (w : World)
    (eg : ∀ args w, (callFunc g args).run Try.prog w = .ok (.enter g args) w)
    (hg : ∀ W (i : Nat), Below w.heap.size w W → i < n → Calls Try.prog g (#[.int .i64 i] ++ lb) W fun e w' => e = .returned (.bool (p i)) ∧ Below W.heap.size W w') :
    Calls Try.prog 55 #[.int .i64 n, .func (.func g) #[] lb] w (FirstIs n p w) := by
  have HG := Lib.hid hg
  have HM := Lib.hid hm
  clear hg hm
  go_enter Try.func55, Try.ntmps55
  go_wp2
  go_loopw [5, 6] (fun a b wr => ∃ lo hi : Nat, lo ≤ hi ∧ hi ≤ n ∧ a = .int .i64 lo ∧ b = .int .i64 hi ∧ Hid (∀ i, i < lo → p i = false) ∧ Hid (∀ i, hi ≤ i → i < n → p i = true) ∧ Below w.heap.size w wr) (fun a b _ => (intOf b).toNat - (intOf a).toNat)
  case atStart => exact ⟨0, n, by omega, by omega, rfl, rfl, fun i h => by omega, fun i h1 h2 => by omega, Below.refl _ _⟩
  case round =>
    obtain ⟨lo, hi, h1, h2, rfl, rfl, HL, HH, hbel⟩ := hrel
    have HB := Lib.hid hbel
    clear hbel
    by_cases hlt : lo < hi
    · obtain ⟨m, hm⟩ : ∃ m : Nat, m = (lo + hi) / 2 := ⟨_, rfl⟩
      have e1 : ((lo : Int) + hi).tdiv 2 = m := by rw [Int.tdiv_eq_ediv_of_nonneg (by omega)]; omega
      have hm1 : lo ≤ m := by omega
      have hm2 : m < hi := by omega
      have CG := Lib.hid (HG.out wr m HB.out (by omega))
      clear hm
      have hsz := HB.out.size
      cases hp : p m with
      | true =>
        rw [hp] at CG
        go_wp2_with (go_at_fn g; (with_reducible refine CG.out.mono ?_); rintro e W1 ⟨rfl, bb⟩; have B1 := Lib.hid (HB.out.trans (bb.mono hsz)); clear bb)
        exact ⟨⟨lo, m, hm1, by omega, rfl, rfl, HL, fun i h3 h4 => HM.out m i h3 h4 hp, B1.out⟩, by simp [intOf]; omega⟩
      | false =>
        rw [hp] at CG
        go_wp2_with (go_at_fn g; (with_reducible refine CG.out.mono ?_); rintro e W1 ⟨rfl, bb⟩; have B1 := Lib.hid (HB.out.trans (bb.mono hsz)); clear bb)
        refine ⟨⟨m + 1, hi, by omega, h2, by go_num, rfl, fun i h3 => ?_, HH, B1.out⟩, by simp [intOf]; omega⟩
        cases hq : p i with
        | false => rfl
        | true => have := HM.out i m (by omega) (by omega) hq; rw [hp] at this; cases this
    · go_wp2
      go_ret
      exact ⟨lo, by omega, rfl, HL.out, fun i h3 h4 => HH.out i (by omega) h4, HB.out⟩


set_option maxRecDepth 100000 in
set_option maxHeartbeats 800000 in
theorem timesFn_c (vd : Value) (d : List Rg) (c : Int) (B1 B2 : Nat) (i : Nat) (W : World) (hd : RgAt W vd d) (hl : d.length ≤ 4096) (hc : -100000 ≤ c ∧ c ≤ 100000) (hi : (i : Int) < sizeL (norm d)) (x1 : Box1 W B1 vd) (x2 : Box1 W B2 (.int .i64 c)) :
    Calls Try.prog 53 #[.int .i64 i, .pointer (some ⟨B1, 0, none⟩), .pointer (some ⟨B2, 0, none⟩)] W fun e w' => e = .returned (.int .i64 (c * vAt d i)) ∧ Below W.heap.size W w' := by
  obtain ⟨v, hv, hv1, hv2, _⟩ := placeS_in (memL d) i (by omega) hi
  have hb : sizeL (norm d) ≤ 401 := by unfold norm; rw [sizeL_canon]; exact (cnt_nonneg _ 401 (-200)).2
  have CA : Hid (Calls Try.prog 54 #[vd, .int .i64 i] W fun e w' => e = .returned (.tuple #[.int .i64 v, .bool true]) ∧ Below W.heap.size W w') := by
    have h := at_c vd d i W hd hl (by omega)
    have e : (if (i : Int) < 0 then none else atL (norm d) i) = some v := hv
    rw [e] at h; exact h
  obtain ⟨m1, m2⟩ := mul_bnd v c 100000 ⟨hv1, hv2⟩ hc
  have w1 := wrap_small (x := c * v) (by omega)
  have e2 : vAt d i = v := by unfold vAt; rw [hv]; rfl
  rw [e2]
  have X2 := Lib.hid x2
  obtain ⟨p0, _⟩ := x1
  obtain ⟨q0, _⟩ := x2
  clear hv e2 hd
  go_enter Try.func53, Try.ntmps53
  go_wp2_with (go_at_call 54; (with_reducible refine CA.out.mono ?_); rintro e W1 ⟨rfl, bb⟩; obtain ⟨r0, _⟩ := X2.out.past bb; have B3 := Lib.hid bb; clear bb)
  go_ret
  exact ⟨rfl, B3.out⟩
end Go.Proofs.Ytmmogifmogdegaa
