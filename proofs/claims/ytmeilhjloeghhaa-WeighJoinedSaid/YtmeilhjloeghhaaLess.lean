/-
  weigh.compare, weigh.Less and coneyref02.Less, walked: both are the order of the rungs, what is no number last.
-/
import Derived.Test.YtmeilhjloeghhaaRows
import Derived.Test.YtmeilhjloeghhaaLib
import Derived.Test.YtmeilhjloeghhaaIeee
namespace Go.Proofs.Ytmeilhjloeghhaa
open Go.RowKit

/-- the key of a weight; none: no number -/
def wk (x : Nat) : Option Int := fkey Ieee.double x
def cmpK : Option Int → Option Int → Int
  | none, none => 0
  | none, some _ => 1
  | some _, none => -1
  | some x, some y => if x < y then -1 else if y < x then 1 else 0
def lessK : Option Int → Option Int → Bool
  | none, _ => false
  | some _, none => true
  | some x, some y => decide (x < y)

theorem ord_none_l {x y : Nat} (h : wk x = none) : FloatKind.f64.format.order x y = none := by
  show Ieee.double.order x y = none
  rw [order_key _ double_le]; unfold wk at h; rw [h]
theorem ord_none_r {x y : Nat} (h : wk y = none) : FloatKind.f64.format.order x y = none := by
  show Ieee.double.order x y = none
  rw [order_key _ double_le]; unfold wk at h; rw [h]; cases fkey Ieee.double x <;> rfl
theorem ord_some {x y : Nat} {a b : Int} (h1 : wk x = some a) (h2 : wk y = some b) : FloatKind.f64.format.order x y = some (compare a b) := by
  show Ieee.double.order x y = _
  rw [order_key _ double_le]; unfold wk at h1 h2; rw [h1, h2]
theorem ord_self {x : Nat} {a : Int} (h1 : wk x = some a) : FloatKind.f64.format.order x x = some .eq := by rw [ord_some h1 h1, cmp_eq rfl]
theorem ord_lt {x y : Nat} {a b : Int} (h1 : wk x = some a) (h2 : wk y = some b) (h : a < b) : FloatKind.f64.format.order x y = some .lt := by rw [ord_some h1 h2, cmp_lt h]
theorem ord_gt {x y : Nat} {a b : Int} (h1 : wk x = some a) (h2 : wk y = some b) (h : b < a) : FloatKind.f64.format.order x y = some .gt := by rw [ord_some h1 h2, cmp_gt h]
theorem ord_eq {x y : Nat} {a b : Int} (h1 : wk x = some a) (h2 : wk y = some b) (h : a = b) : FloatKind.f64.format.order x y = some .eq := by rw [ord_some h1 h2, cmp_eq h]
theorem add_zero_run {x : Nat} {k : Int} (hx : x < 2 ^ 64) (hk : wk x = some k) : ∃ y, floatBits .add .f64 x 0 = some y ∧ wk y = some k :=
  add_zero_key Ieee.double double_le double_lt x (by have : 2 * Ieee.double.signWeight = 2 ^ 64 := by decide
                                                     omega) k hk
theorem wk_zero : wk 0 = some 0 := by
  unfold wk fkey wrung wneg
  simp [sgn]

set_option maxHeartbeats 400000 in
theorem nan_no (x : Nat) (w : World) (a : Int) (h : wk x = some a) : Calls Try.prog 28 #[.float .f64 x] w fun e w' => e = .returned (.bool false) ∧ w = w' := by
  have h1 := ord_self h
  clear h
  go_enter Try.func28, Try.ntmps28
  go_wp2
  go_ret
  exact ⟨by simp, rfl⟩

set_option maxHeartbeats 400000 in
theorem cmpCompare_any (x y : Nat) (w : World) (a b : Int) (hx : wk x = some a) (hy : wk y = some b) :
    Calls Try.prog 26 #[.float .f64 x, .float .f64 y] w fun e w' => e = .returned (.int .i64 (cmpK (some a) (some b))) ∧ w = w' := by
  have HX := Lib.hid hx
  have HY := Lib.hid hy
  rcases Int.lt_trichotomy a b with h | h | h
  · have h1 := ord_lt hx hy h
    clear hx hy
    go_enter Try.func26, Try.ntmps26
    go_wp2_with (first
      | (go_at_call 28; ((with_reducible refine (nan_no _ _ _ HX.out).mono ?_); rintro e w' ⟨rfl, rfl⟩))
      | (go_at_call 28; ((with_reducible refine (nan_no _ _ _ HY.out).mono ?_); rintro e w' ⟨rfl, rfl⟩)))
    go_ret
    exact ⟨ret_int (by simp [cmpK, h]), rfl⟩
  · have h1 := ord_eq hx hy h
    clear hx hy
    go_enter Try.func26, Try.ntmps26
    go_wp2_with (first
      | (go_at_call 28; ((with_reducible refine (nan_no _ _ _ HX.out).mono ?_); rintro e w' ⟨rfl, rfl⟩))
      | (go_at_call 28; ((with_reducible refine (nan_no _ _ _ HY.out).mono ?_); rintro e w' ⟨rfl, rfl⟩)))
    go_ret
    exact ⟨ret_int (by simp [cmpK, h]), rfl⟩
  · have h1 := ord_gt hx hy h
    clear hx hy
    go_enter Try.func26, Try.ntmps26
    go_wp2_with (first
      | (go_at_call 28; ((with_reducible refine (nan_no _ _ _ HX.out).mono ?_); rintro e w' ⟨rfl, rfl⟩))
      | (go_at_call 28; ((with_reducible refine (nan_no _ _ _ HY.out).mono ?_); rintro e w' ⟨rfl, rfl⟩)))
    go_ret
    exact ⟨ret_int (by simp [cmpK, h]; omega), rfl⟩

set_option maxHeartbeats 400000 in
theorem compare_any (x y : Nat) (w : World) (hx : x < 2 ^ 64) (hy : y < 2 ^ 64) :
    Calls Try.prog 22 #[.float .f64 x, .float .f64 y] w fun e w' => e = .returned (.int .i64 (cmpK (wk x) (wk y))) ∧ w = w' := by
  cases kx : wk x with
  | none =>
    cases ky : wk y with
    | none =>
      have h1 := ord_none_l (y := x) kx
      have h2 := ord_none_l (y := y) ky
      clear kx ky hx hy
      go_enter Try.func22, Try.ntmps22
      go_wp2
      go_ret
      exact ⟨rfl, rfl⟩
    | some b =>
      have h1 := ord_none_l (y := x) kx
      have h2 := ord_self ky
      clear kx ky hx hy
      go_enter Try.func22, Try.ntmps22
      go_wp2
      go_ret
      exact ⟨rfl, rfl⟩
  | some a =>
    cases ky : wk y with
    | none =>
      have h1 := ord_self kx
      have h2 := ord_none_l (y := y) ky
      clear kx ky hx hy
      go_enter Try.func22, Try.ntmps22
      go_wp2
      go_ret
      exact ⟨rfl, rfl⟩
    | some b =>
      have h1 := ord_self kx
      have h2 := ord_self ky
      obtain ⟨x', e1, k1⟩ := add_zero_run hx kx
      obtain ⟨y', e2, k2⟩ := add_zero_run hy ky
      have r1 := fun (w : World) (t : TypeId) => run_float_arith (P := Try.prog) w .add t .f64 x 0 x' e1
      have r2 := fun (w : World) (t : TypeId) => run_float_arith (P := Try.prog) w .add t .f64 y 0 y' e2
      have K1 := Lib.hid k1
      have K2 := Lib.hid k2
      clear kx ky hx hy e1 e2 k1 k2
      go_enter Try.func22, Try.ntmps22
      go_wp2_with (first | (go_at_call 26; ((with_reducible refine (cmpCompare_any _ _ _ _ _ K1.out K2.out).mono ?_); rintro e w' ⟨rfl, rfl⟩)))
      go_ret
      exact ⟨rfl, rfl⟩

theorem less_cmp (a b : Option Int) : (cmpK a b < 0) ↔ lessK a b = true := by
  cases a <;> cases b <;> simp [cmpK, lessK]
  split <;> rename_i h <;> simp [h]
  split <;> simp

set_option maxHeartbeats 400000 in
theorem less_any (x y : Nat) (w : World) (hx : x < 2 ^ 64) (hy : y < 2 ^ 64) :
    Calls Try.prog 10 #[.float .f64 x, .float .f64 y] w fun e w' => e = .returned (.bool (lessK (wk x) (wk y))) ∧ w = w' := by
  have HX := Lib.hid hx
  have HY := Lib.hid hy
  clear hx hy
  have hl := less_cmp (wk x) (wk y)
  have HL : Hid (decide (cmpK (wk x) (wk y) < 0) = lessK (wk x) (wk y)) := by
    show _ = _
    rw [Bool.eq_iff_iff, decide_eq_true_eq]; exact hl
  clear hl
  go_enter Try.func10, Try.ntmps10
  go_wp2_with (first | (go_at_call 22; ((with_reducible refine (compare_any _ _ _ HX.out HY.out).mono ?_); rintro e w' ⟨rfl, rfl⟩)))
  go_ret
  exact ⟨ret_bool HL.out, rfl⟩

/-! ### The document's -/
set_option maxHeartbeats 400000 in
theorem refNan_any (x : Nat) (w : World) :
    Calls Try.prog 19 #[.float .f64 x] w fun e w' => e = .returned (.bool (wk x).isNone) ∧ w = w' := by
  cases kx : wk x with
  | none =>
    have h1 := ord_none_l (y := 0) kx
    clear kx
    go_enter Try.func19, Try.ntmps19
    go_wp2
    go_ret
    exact ⟨rfl, rfl⟩
  | some a =>
    rcases Int.lt_trichotomy a 0 with h | h | h
    · have h1 := ord_lt kx wk_zero h
      clear kx
      go_enter Try.func19, Try.ntmps19
      go_wp2
      go_ret
      exact ⟨rfl, rfl⟩
    · have h1 := ord_eq kx wk_zero h
      clear kx
      go_enter Try.func19, Try.ntmps19
      go_wp2
      go_ret
      exact ⟨rfl, rfl⟩
    · have h1 := ord_gt kx wk_zero h
      clear kx
      go_enter Try.func19, Try.ntmps19
      go_wp2
      go_ret
      exact ⟨rfl, rfl⟩

set_option maxHeartbeats 400000 in
theorem refLess_any (x y : Nat) (w : World) :
    Calls Try.prog 11 #[.float .f64 x, .float .f64 y] w fun e w' => e = .returned (.bool (lessK (wk x) (wk y))) ∧ w = w' := by
  obtain ⟨kx, hx⟩ : ∃ k, wk x = k := ⟨_, rfl⟩
  obtain ⟨ky, hy⟩ : ∃ k, wk y = k := ⟨_, rfl⟩
  have CX : Hid (∀ w, Calls Try.prog 19 #[.float .f64 x] w fun e w' => e = .returned (.bool kx.isNone) ∧ w = w') := fun w => by rw [← hx]; exact refNan_any x w
  have CY : Hid (∀ w, Calls Try.prog 19 #[.float .f64 y] w fun e w' => e = .returned (.bool ky.isNone) ∧ w = w') := fun w => by rw [← hy]; exact refNan_any y w
  have HL : Hid (lessK (wk x) (wk y) = lessK kx ky) := by show _ = _; rw [hx, hy]
  cases kx with
  | none =>
    clear hx hy
    go_enter Try.func11, Try.ntmps11
    go_wp2_with (first
      | (go_at_call 19; ((with_reducible refine (CX.out _).mono ?_); rintro e w' ⟨rfl, rfl⟩)))
    go_ret
    exact ⟨ret_bool (by rw [HL.out]; rfl), rfl⟩
  | some a =>
    cases ky with
    | none =>
      clear hx hy
      go_enter Try.func11, Try.ntmps11
      go_wp2_with (first
        | (go_at_call 19; ((with_reducible refine (CX.out _).mono ?_); rintro e w' ⟨rfl, rfl⟩))
        | (go_at_call 19; ((with_reducible refine (CY.out _).mono ?_); rintro e w' ⟨rfl, rfl⟩)))
      go_ret
      exact ⟨ret_bool (by rw [HL.out]; rfl), rfl⟩
    | some b =>
      have ho : Hid ((FloatKind.f64.format.order x y == some .lt) = lessK (some a) (some b)) := by
        show _ = _
        rcases Int.lt_trichotomy a b with h | h | h
        · rw [ord_lt hx hy h]; simp [lessK, h]
        · rw [ord_eq hx hy h]; simp [lessK, h]
        · rw [ord_gt hx hy h]; simp [lessK]; omega
      clear hx hy
      go_enter Try.func11, Try.ntmps11
      go_wp2_with (first
        | (go_at_call 19; ((with_reducible refine (CX.out _).mono ?_); rintro e w' ⟨rfl, rfl⟩))
        | (go_at_call 19; ((with_reducible refine (CY.out _).mono ?_); rintro e w' ⟨rfl, rfl⟩)))
      all_goals go_ret
      all_goals exact ⟨ret_bool (by rw [HL.out, ← ho.out]), rfl⟩

/-! ### The laws -/
theorem lessK_asym (a b : Option Int) : (lessK a b && lessK b a) = false := by
  cases a <;> cases b <;> simp [lessK]
  omega

set_option maxHeartbeats 400000 in
theorem weighLess_any (x y : Nat) (w : World) (hx : x < 2 ^ 64) (hy : y < 2 ^ 64) :
    Calls Try.prog 3 #[.float .f64 x, .float .f64 y] w fun e w' => e = .returned (.bool true) ∧ w = w' := by
  have C1 : Hid (∀ w, Calls Try.prog 10 #[.float .f64 x, .float .f64 y] w fun e w' => e = .returned (.bool (lessK (wk x) (wk y))) ∧ w = w') := fun w => less_any x y w hx hy
  have C2 : Hid (∀ w, Calls Try.prog 10 #[.float .f64 y, .float .f64 x] w fun e w' => e = .returned (.bool (lessK (wk y) (wk x))) ∧ w = w') := fun w => less_any y x w hy hx
  have D1 : Hid (∀ w, Calls Try.prog 11 #[.float .f64 x, .float .f64 y] w fun e w' => e = .returned (.bool (lessK (wk x) (wk y))) ∧ w = w') := fun w => refLess_any x y w
  have D2 : Hid (∀ w, Calls Try.prog 11 #[.float .f64 y, .float .f64 x] w fun e w' => e = .returned (.bool (lessK (wk y) (wk x))) ∧ w = w') := fun w => refLess_any y x w
  have hA := lessK_asym (wk x) (wk y)
  generalize lessK (wk x) (wk y) = p at *
  generalize lessK (wk y) (wk x) = q at *
  clear hx hy
  cases p <;> cases q <;> first | (exfalso; simp at hA; done) | skip
  all_goals
    clear hA
    go_enter Try.func3, Try.ntmps3
    go_wp2_with (first
      | (go_at_call 10; ((with_reducible refine (C1.out _).mono ?_); rintro e w' ⟨rfl, rfl⟩))
      | (go_at_call 10; ((with_reducible refine (C2.out _).mono ?_); rintro e w' ⟨rfl, rfl⟩))
      | (go_at_call 11; ((with_reducible refine (D1.out _).mono ?_); rintro e w' ⟨rfl, rfl⟩))
      | (go_at_call 11; ((with_reducible refine (D2.out _).mono ?_); rintro e w' ⟨rfl, rfl⟩)))
    go_ret
    exact ⟨rfl, rfl⟩

theorem lessK_trans (a b c : Option Int) (h1 : lessK a b = true) (h2 : lessK b c = true) : lessK a c = true := by
  cases a <;> cases b <;> cases c <;> simp [lessK] at *
  omega
theorem lessK_alike (a b c : Option Int) (h1 : lessK a b = false) (h2 : lessK b a = false) (h3 : lessK b c = false) (h4 : lessK c b = false) : lessK a c = false ∧ lessK c a = false := by
  cases a <;> cases b <;> cases c <;> simp [lessK] at *
  omega

set_option maxHeartbeats 1600000 in
theorem weighWeak_any (x y z : Nat) (w : World) (hx : x < 2 ^ 64) (hy : y < 2 ^ 64) (hz : z < 2 ^ 64) :
    Calls Try.prog 4 #[.float .f64 x, .float .f64 y, .float .f64 z] w fun e w' => e = .returned (.bool true) ∧ w = w' := by
  have C1 : Hid (∀ w, Calls Try.prog 10 #[.float .f64 x, .float .f64 y] w fun e w' => e = .returned (.bool (lessK (wk x) (wk y))) ∧ w = w') := fun w => less_any x y w hx hy
  have C2 : Hid (∀ w, Calls Try.prog 10 #[.float .f64 y, .float .f64 z] w fun e w' => e = .returned (.bool (lessK (wk y) (wk z))) ∧ w = w') := fun w => less_any y z w hy hz
  have C3 : Hid (∀ w, Calls Try.prog 10 #[.float .f64 x, .float .f64 z] w fun e w' => e = .returned (.bool (lessK (wk x) (wk z))) ∧ w = w') := fun w => less_any x z w hx hz
  have C4 : Hid (∀ w, Calls Try.prog 10 #[.float .f64 y, .float .f64 x] w fun e w' => e = .returned (.bool (lessK (wk y) (wk x))) ∧ w = w') := fun w => less_any y x w hy hx
  have C5 : Hid (∀ w, Calls Try.prog 10 #[.float .f64 z, .float .f64 y] w fun e w' => e = .returned (.bool (lessK (wk z) (wk y))) ∧ w = w') := fun w => less_any z y w hz hy
  have C6 : Hid (∀ w, Calls Try.prog 10 #[.float .f64 z, .float .f64 x] w fun e w' => e = .returned (.bool (lessK (wk z) (wk x))) ∧ w = w') := fun w => less_any z x w hz hx
  have D1 : Hid (∀ w, Calls Try.prog 11 #[.float .f64 x, .float .f64 y] w fun e w' => e = .returned (.bool (lessK (wk x) (wk y))) ∧ w = w') := fun w => refLess_any x y w
  have hT := lessK_trans (wk x) (wk y) (wk z)
  have hA := lessK_alike (wk x) (wk y) (wk z)
  generalize lessK (wk x) (wk y) = p1 at *
  generalize lessK (wk y) (wk z) = p2 at *
  generalize lessK (wk x) (wk z) = p3 at *
  generalize lessK (wk y) (wk x) = p4 at *
  generalize lessK (wk z) (wk y) = p5 at *
  generalize lessK (wk z) (wk x) = p6 at *
  clear hx hy hz
  cases p1 <;> cases p2 <;> cases p3 <;> cases p4 <;> cases p5 <;> cases p6 <;> first | (exfalso; simp at hT hA; done) | skip
  all_goals
    clear hA hT
    go_enter Try.func4, Try.ntmps4
    go_wp2_with (first
      | (go_at_call 10; ((with_reducible refine (C1.out _).mono ?_); rintro e w' ⟨rfl, rfl⟩))
      | (go_at_call 10; ((with_reducible refine (C2.out _).mono ?_); rintro e w' ⟨rfl, rfl⟩))
      | (go_at_call 10; ((with_reducible refine (C3.out _).mono ?_); rintro e w' ⟨rfl, rfl⟩))
      | (go_at_call 10; ((with_reducible refine (C4.out _).mono ?_); rintro e w' ⟨rfl, rfl⟩))
      | (go_at_call 10; ((with_reducible refine (C5.out _).mono ?_); rintro e w' ⟨rfl, rfl⟩))
      | (go_at_call 10; ((with_reducible refine (C6.out _).mono ?_); rintro e w' ⟨rfl, rfl⟩))
      | (go_at_call 11; ((with_reducible refine (D1.out _).mono ?_); rintro e w' ⟨rfl, rfl⟩)))
    go_ret
    exact ⟨rfl, rfl⟩
end Go.Proofs.Ytmeilhjloeghhaa
