/-
  norm.Name and norm.Control, and the document's, walked.
  coneyref10.Is and coneyref10.Control, walked.
-/
import Derived.Test.YtmffobadnmkpbaaKtm1
import Derived.Deep.LoopGhost
import Derived.BigQuiet
import Derived.Handy
namespace Go.Proofs.Ytmffobadnmkpbaa
open Go.RowKit

/-- is it an atom, or a compound term -/
def Tm.named (t : Tm) : Bool := decide (t.kind = 3) || decide (t.kind = 4)
def name3 (t : Tm) : Value := .tuple #[.string t.name, .int .i64 t.args.length, .bool t.named]
theorem Tm.kind_cases (t : Tm) : (t.kind = 3 ∧ t.args = [] ∧ t.named = true) ∨ (t.kind = 4 ∧ t.named = true) ∨ (t.kind ≠ 3 ∧ t.kind ≠ 4 ∧ t.name = ⟨#[]⟩ ∧ t.args = [] ∧ t.named = false) := by
  cases t <;> simp [Tm.kind, Tm.args, Tm.named, Tm.name] <;> rfl
set_option maxRecDepth 100000 in
theorem normName_c (t : Tm) (ao : Option Addr) (c : Nat) (w : World) :
    Calls Try.prog 38 #[.agg #[.int .i64 t.kind, .int .i64 t.num, .string t.name, .slice ao t.args.length c]] w fun e w' => e = .returned (.tuple #[.string t.name, .int .i64 t.args.length, .bool t.named]) ∧ Below w.heap.size w w' := by
  have HZ := Lib.hid (below_one w)
  rcases t.kind_cases with ⟨h1, h2, h3⟩ | ⟨h1, h3⟩ | ⟨h1, h2, h3, h4, h5⟩
  · rw [h1, h3]
    have hl : t.args.length = 0 := by rw [h2]; rfl
    rw [hl]
    clear h1 h2 h3 hl
    go_enter Try.func38, Try.ntmps38
    go_wp2
    go_ret3
    exact ⟨rfl, HZ.out _⟩
  · rw [h1, h3]
    clear h1 h3
    go_enter Try.func38, Try.ntmps38
    go_wp2
    go_quiet (fail)
    go_wp2
    go_ret3
    exact ⟨rfl, below_drewT (HZ.out _) _⟩
  · have b1 : (t.kind == 3) = false := by simpa using h1
    have b2 : (t.kind == 4) = false := by simpa using h2
    have hl : t.args.length = 0 := by rw [h4]; rfl
    rw [h3, h5, hl]
    clear h1 h2 h3 h4 h5 hl
    go_enter Try.func38, Try.ntmps38
    go_wp2
    go_ret3
    exact ⟨rfl, HZ.out _⟩

/-- has it that name, and so many arguments -/
def Tm.is (t : Tm) (l : List UInt8) (n : Nat) : Bool := (t.name.toList == l) && decide (t.args.length = n)
def controlT (t : Tm) : Bool := t.is [44] 2 || t.is [59] 2 || t.is [45, 62] 2 || t.is [92, 43] 1 || t.is [33] 0
theorem ctl_cases (l : List UInt8) : ((l == [44]) = true) ∨ ((l == [44]) = false ∧ (l == [59]) = true) ∨ ((l == [44]) = false ∧ (l == [59]) = false ∧ (l == [45, 62]) = true) ∨
    ((l == [44]) = false ∧ (l == [59]) = false ∧ (l == [45, 62]) = false ∧ (l == [92, 43]) = true) ∨ ((l == [44]) = false ∧ (l == [59]) = false ∧ (l == [45, 62]) = false ∧ (l == [92, 43]) = false ∧ (l == [33]) = true) ∨
    ((l == [44]) = false ∧ (l == [59]) = false ∧ (l == [45, 62]) = false ∧ (l == [92, 43]) = false ∧ (l == [33]) = false) := by
  cases (l == [44]) <;> cases (l == [59]) <;> cases (l == [45, 62]) <;> cases (l == [92, 43]) <;> cases (l == [33]) <;> simp
theorem ctl_val (l : List UInt8) (n : Nat) :
    ((l == [44]) && decide (n = 2) || (l == [59]) && decide (n = 2) || (l == [45, 62]) && decide (n = 2) || (l == [92, 43]) && decide (n = 1) || (l == [33]) && decide (n = 0)) =
    if l == [44] then (n : Int) == 2 else if l == [59] then (n : Int) == 2 else if l == [45, 62] then (n : Int) == 2 else if l == [92, 43] then (n : Int) == 1 else if l == [33] then (n : Int) == 0 else false := by
  have e2 : ((n : Int) == 2) = decide (n = 2) := by apply Bool.eq_iff_iff.2; simp; omega
  have e1 : ((n : Int) == 1) = decide (n = 1) := by apply Bool.eq_iff_iff.2; simp; omega
  have e0 : ((n : Int) == 0) = decide (n = 0) := by apply Bool.eq_iff_iff.2; simp
  rw [e2, e1, e0]
  by_cases h1 : l = [44]
  · subst h1; simp
  by_cases h2 : l = [59]
  · subst h2; simp
  by_cases h3 : l = [45, 62]
  · subst h3; simp
  by_cases h4 : l = [92, 43]
  · subst h4; simp
  by_cases h5 : l = [33]
  · subst h5; simp
  simp [h1, h2, h3, h4, h5]
set_option maxRecDepth 100000 in
theorem control_c (t : Tm) (ao : Option Addr) (c : Nat) (w : World) :
    Calls Try.prog 43 #[.agg #[.int .i64 t.kind, .int .i64 t.num, .string t.name, .slice ao t.args.length c]] w fun e w' => e = .returned (.bool (controlT t)) ∧ Below w.heap.size w w' := by
  have HZ := Lib.hid (below_one w)
  have CN := Lib.hid (fun W => normName_c t ao c W)
  have HC : Hid (controlT t = if t.name.toList == [44] then (t.args.length : Int) == 2 else if t.name.toList == [59] then (t.args.length : Int) == 2 else if t.name.toList == [45, 62] then (t.args.length : Int) == 2 else if t.name.toList == [92, 43] then (t.args.length : Int) == 1 else if t.name.toList == [33] then (t.args.length : Int) == 0 else false) := ctl_val _ _
  obtain ⟨r, hr⟩ : ∃ r, r = controlT t := ⟨_, rfl⟩
  rw [← hr] at HC ⊢
  clear hr
  generalize t.args.length = n at *
  generalize t.name = s at *
  rcases ctl_cases s.toList with h1 | ⟨h1, h2⟩ | ⟨h1, h2, h3⟩ | ⟨h1, h2, h3, h4⟩ | ⟨h1, h2, h3, h4, h5⟩ | ⟨h1, h2, h3, h4, h5⟩
  all_goals
    simp only [*, if_true, Bool.false_eq_true, if_false] at HC
    go_enter Try.func43, Try.ntmps43
    go_wp2_with (first | (go_at_call 38; ((with_reducible refine (CN.out _).mono ?_); rintro e W1 ⟨rfl, bb⟩; have B1 := Lib.hid ((HZ.out _).trans (bb.mono (by simp))); clear bb)))
    go_ret
    exact ⟨ret_bool HC.out.symm, B1.out⟩

/-! ### the document's -/
set_option maxRecDepth 100000 in
theorem refName_c (t : Tm) (ao : Option Addr) (c : Nat) (w : World) :
    Calls Try.prog 42 #[.agg #[.int .i64 t.kind, .int .i64 t.num, .string t.name, .slice ao t.args.length c]] w fun e w' => e = .returned (.tuple #[.string t.name, .int .i64 t.args.length, .bool t.named]) ∧ Below w.heap.size w w' := by
  have HZ := Lib.hid (below_one w)
  rcases t.kind_cases with ⟨h1, h2, h3⟩ | ⟨h1, h3⟩ | ⟨h1, h2, h3, h4, h5⟩
  · rw [h1, h3]
    have hl : t.args.length = 0 := by rw [h2]; rfl
    rw [hl]
    clear h1 h2 h3 hl
    go_enter Try.func42, Try.ntmps42
    go_wp2
    go_ret3
    exact ⟨rfl, HZ.out _⟩
  · rw [h1, h3]
    clear h1 h3
    go_enter Try.func42, Try.ntmps42
    go_wp2
    go_quiet (fail)
    go_wp2
    go_ret3
    exact ⟨rfl, below_drewT (HZ.out _) _⟩
  · have b1 : (t.kind == 3) = false := by simpa using h1
    have b2 : (t.kind == 4) = false := by simpa using h2
    have hl : t.args.length = 0 := by rw [h4]; rfl
    rw [h3, h5, hl]
    clear h1 h2 h3 h4 h5 hl
    go_enter Try.func42, Try.ntmps42
    go_wp2
    go_ret3
    exact ⟨rfl, HZ.out _⟩
end Go.Proofs.Ytmffobadnmkpbaa
namespace Go.Proofs.Ytmffobadnmkpbaa
open Go.RowKit

/-- what Is tells -/
def isR (t : Tm) (nm : ByteArray) (k : Int) : Bool := t.named && (t.name.toList == nm.toList) && ((t.args.length : Int) == k)
set_option maxRecDepth 100000 in
theorem isRef_c (t : Tm) (ao : Option Addr) (c : Nat) (nm : ByteArray) (k : Int) (w : World) :
    Calls Try.prog 84 #[.agg #[.int .i64 t.kind, .int .i64 t.num, .string t.name, .slice ao t.args.length c], .string nm, .int .i64 k] w fun e w' => e = .returned (.bool (isR t nm k)) ∧ Below w.heap.size w w' := by
  have HZ := Lib.hid (below_one w)
  have CN := Lib.hid (fun W => refName_c t ao c W)
  have HC : Hid (isR t nm k = (t.named && (t.name.toList == nm.toList) && ((t.args.length : Int) == k))) := rfl
  obtain ⟨r, hr⟩ : ∃ r, r = isR t nm k := ⟨_, rfl⟩
  rw [← hr] at HC ⊢
  clear hr
  generalize t.args.length = n at *
  generalize t.name = s at *
  generalize t.named = b at *
  cases b with
  | false =>
    have HC2 : Hid (r = false) := by show _ = _; have := HC.out; simpa using this
    go_enter Try.func84, Try.ntmps84
    go_wp2_with (first | (go_at_call 42; ((with_reducible refine (CN.out _).mono ?_); rintro e W1 ⟨rfl, bb⟩; have B1 := Lib.hid ((HZ.out _).trans (bb.mono (by simp))); clear bb)))
    go_ret
    exact ⟨ret_bool HC2.out.symm, B1.out⟩
  | true =>
    cases hs : (s.toList == nm.toList) with
    | false =>
      rw [hs] at HC
      have HC2 : Hid (r = false) := by show _ = _; have := HC.out; simpa using this
      go_enter Try.func84, Try.ntmps84
      go_wp2_with (first | (go_at_call 42; ((with_reducible refine (CN.out _).mono ?_); rintro e W1 ⟨rfl, bb⟩; have B1 := Lib.hid ((HZ.out _).trans (bb.mono (by simp))); clear bb)))
      go_ret
      exact ⟨ret_bool HC2.out.symm, B1.out⟩
    | true =>
      rw [hs] at HC
      have HC2 : Hid (r = ((n : Int) == k)) := by show _ = _; have := HC.out; simpa using this
      go_enter Try.func84, Try.ntmps84
      go_wp2_with (first | (go_at_call 42; ((with_reducible refine (CN.out _).mono ?_); rintro e W1 ⟨rfl, bb⟩; have B1 := Lib.hid ((HZ.out _).trans (bb.mono (by simp))); clear bb)))
      go_ret
      exact ⟨ret_bool HC2.out.symm, B1.out⟩
theorem Tm.named_no {t : Tm} (h : t.named = false) : t.name.toList = [] := by
  rw [ByteArray.toList_eq]
  cases t <;> simp [Tm.named, Tm.kind] at h <;> rfl
theorem isR_is (t : Tm) (nm : ByteArray) (l : List UInt8) (k : Nat) (hl : nm.toList = l) (hne : l ≠ []) : isR t nm k = t.is l k := by
  unfold isR Tm.is
  rw [hl]
  have e : ((t.args.length : Int) == (k : Int)) = decide (t.args.length = k) := by apply Bool.eq_iff_iff.2; simp; omega
  rw [e]
  cases hn : t.named with
  | true => simp
  | false => rw [Tm.named_no hn]; cases l <;> simp at hne ⊢
theorem toList_lit (l : List UInt8) : (⟨l.toArray⟩ : ByteArray).toList = l := by
  rw [ByteArray.toList_eq]
set_option maxRecDepth 100000 in
set_option maxHeartbeats 1600000 in
theorem refControl_c (t : Tm) (ao : Option Addr) (c : Nat) (w : World) :
    Calls Try.prog 44 #[.agg #[.int .i64 t.kind, .int .i64 t.num, .string t.name, .slice ao t.args.length c]] w fun e w' => e = .returned (.bool (controlT t)) ∧ Below w.heap.size w w' := by
  have B0 := Lib.hid (Below.refl (w.heap.size + 1) (w.alloc (.cells #[.int .i64 t.kind, .int .i64 t.num, .string t.name, .slice ao t.args.length c] 24)))
  have HC : Hid (controlT t = (t.is [44] 2 || t.is [59] 2 || t.is [45, 62] 2 || t.is [92, 43] 1 || t.is [33] 0)) := rfl
  have C0 : Hid (∀ W, Calls Try.prog 84 #[.agg #[.int .i64 t.kind, .int .i64 t.num, .string t.name, .slice ao t.args.length c], .string ⟨#[44]⟩, .int .i64 2] W fun e w' => e = .returned (.bool (t.is [44] 2)) ∧ Below W.heap.size W w') := fun W => by
    have h := isRef_c t ao c ⟨#[44]⟩ 2 W
    rw [show isR t ⟨#[44]⟩ 2 = t.is [44] 2 from isR_is t ⟨#[44]⟩ [44] 2 (toList_lit [44]) (by simp)] at h
    exact h
  have C1 : Hid (∀ W, Calls Try.prog 84 #[.agg #[.int .i64 t.kind, .int .i64 t.num, .string t.name, .slice ao t.args.length c], .string ⟨#[59]⟩, .int .i64 2] W fun e w' => e = .returned (.bool (t.is [59] 2)) ∧ Below W.heap.size W w') := fun W => by
    have h := isRef_c t ao c ⟨#[59]⟩ 2 W
    rw [show isR t ⟨#[59]⟩ 2 = t.is [59] 2 from isR_is t ⟨#[59]⟩ [59] 2 (toList_lit [59]) (by simp)] at h
    exact h
  have C2 : Hid (∀ W, Calls Try.prog 84 #[.agg #[.int .i64 t.kind, .int .i64 t.num, .string t.name, .slice ao t.args.length c], .string ⟨#[45, 62]⟩, .int .i64 2] W fun e w' => e = .returned (.bool (t.is [45, 62] 2)) ∧ Below W.heap.size W w') := fun W => by
    have h := isRef_c t ao c ⟨#[45, 62]⟩ 2 W
    rw [show isR t ⟨#[45, 62]⟩ 2 = t.is [45, 62] 2 from isR_is t ⟨#[45, 62]⟩ [45, 62] 2 (toList_lit [45, 62]) (by simp)] at h
    exact h
  have C3 : Hid (∀ W, Calls Try.prog 84 #[.agg #[.int .i64 t.kind, .int .i64 t.num, .string t.name, .slice ao t.args.length c], .string ⟨#[92, 43]⟩, .int .i64 1] W fun e w' => e = .returned (.bool (t.is [92, 43] 1)) ∧ Below W.heap.size W w') := fun W => by
    have h := isRef_c t ao c ⟨#[92, 43]⟩ 1 W
    rw [show isR t ⟨#[92, 43]⟩ 1 = t.is [92, 43] 1 from isR_is t ⟨#[92, 43]⟩ [92, 43] 1 (toList_lit [92, 43]) (by simp)] at h
    exact h
  have C4 : Hid (∀ W, Calls Try.prog 84 #[.agg #[.int .i64 t.kind, .int .i64 t.num, .string t.name, .slice ao t.args.length c], .string ⟨#[33]⟩, .int .i64 0] W fun e w' => e = .returned (.bool (t.is [33] 0)) ∧ Below W.heap.size W w') := fun W => by
    have h := isRef_c t ao c ⟨#[33]⟩ 0 W
    rw [show isR t ⟨#[33]⟩ 0 = t.is [33] 0 from isR_is t ⟨#[33]⟩ [33] 0 (toList_lit [33]) (by simp)] at h
    exact h
  obtain ⟨r, hr⟩ : ∃ r, r = controlT t := ⟨_, rfl⟩
  rw [← hr] at HC ⊢
  clear hr
  generalize t.is [44] 2 = b0 at *
  generalize t.is [59] 2 = b1 at *
  generalize t.is [45, 62] 2 = b2 at *
  generalize t.is [92, 43] 1 = b3 at *
  generalize t.is [33] 0 = b4 at *
  generalize t.args.length = n at *
  cases b0 with
  | true =>
    have HC2 : Hid (r = true) := by show _ = _; have := HC.out; simpa using this
    go_enter Try.func44, Try.ntmps44
    go_wp2_with (first | (go_at_call 84; ((with_reducible refine (C0.out _).mono ?_); rintro e W1 ⟨rfl, bb⟩; have B0 := Lib.hid (B0.out.trans (bb.mono (le_box B0.out))); obtain ⟨x0, x1, x2, x3⟩ := box_one B0.out; clear bb)))
    go_ret
    exact ⟨ret_bool HC2.out.symm, below_box B0.out⟩
  | false =>
    cases b1 with
    | true =>
      have HC2 : Hid (r = true) := by show _ = _; have := HC.out; simpa using this
      go_enter Try.func44, Try.ntmps44
      go_wp2_with (first | (go_at_call 84; ((with_reducible refine (C0.out _).mono ?_); rintro e W1 ⟨rfl, bb⟩; have B0 := Lib.hid (B0.out.trans (bb.mono (le_box B0.out))); obtain ⟨x0, x1, x2, x3⟩ := box_one B0.out; clear bb)) | (go_at_call 84; ((with_reducible refine (C1.out _).mono ?_); rintro e W1 ⟨rfl, bb⟩; have B0 := Lib.hid (B0.out.trans (bb.mono (le_box B0.out))); obtain ⟨x0, x1, x2, x3⟩ := box_one B0.out; clear bb)))
      go_ret
      exact ⟨ret_bool HC2.out.symm, below_box B0.out⟩
    | false =>
      cases b2 with
      | true =>
        have HC2 : Hid (r = true) := by show _ = _; have := HC.out; simpa using this
        go_enter Try.func44, Try.ntmps44
        go_wp2_with (first | (go_at_call 84; ((with_reducible refine (C0.out _).mono ?_); rintro e W1 ⟨rfl, bb⟩; have B0 := Lib.hid (B0.out.trans (bb.mono (le_box B0.out))); obtain ⟨x0, x1, x2, x3⟩ := box_one B0.out; clear bb)) | (go_at_call 84; ((with_reducible refine (C1.out _).mono ?_); rintro e W1 ⟨rfl, bb⟩; have B0 := Lib.hid (B0.out.trans (bb.mono (le_box B0.out))); obtain ⟨x0, x1, x2, x3⟩ := box_one B0.out; clear bb)) | (go_at_call 84; ((with_reducible refine (C2.out _).mono ?_); rintro e W1 ⟨rfl, bb⟩; have B0 := Lib.hid (B0.out.trans (bb.mono (le_box B0.out))); obtain ⟨x0, x1, x2, x3⟩ := box_one B0.out; clear bb)))
        go_ret
        exact ⟨ret_bool HC2.out.symm, below_box B0.out⟩
      | false =>
        cases b3 with
        | true =>
          have HC2 : Hid (r = true) := by show _ = _; have := HC.out; simpa using this
          go_enter Try.func44, Try.ntmps44
          go_wp2_with (first | (go_at_call 84; ((with_reducible refine (C0.out _).mono ?_); rintro e W1 ⟨rfl, bb⟩; have B0 := Lib.hid (B0.out.trans (bb.mono (le_box B0.out))); obtain ⟨x0, x1, x2, x3⟩ := box_one B0.out; clear bb)) | (go_at_call 84; ((with_reducible refine (C1.out _).mono ?_); rintro e W1 ⟨rfl, bb⟩; have B0 := Lib.hid (B0.out.trans (bb.mono (le_box B0.out))); obtain ⟨x0, x1, x2, x3⟩ := box_one B0.out; clear bb)) | (go_at_call 84; ((with_reducible refine (C2.out _).mono ?_); rintro e W1 ⟨rfl, bb⟩; have B0 := Lib.hid (B0.out.trans (bb.mono (le_box B0.out))); obtain ⟨x0, x1, x2, x3⟩ := box_one B0.out; clear bb)) | (go_at_call 84; ((with_reducible refine (C3.out _).mono ?_); rintro e W1 ⟨rfl, bb⟩; have B0 := Lib.hid (B0.out.trans (bb.mono (le_box B0.out))); obtain ⟨x0, x1, x2, x3⟩ := box_one B0.out; clear bb)))
          go_ret
          exact ⟨ret_bool HC2.out.symm, below_box B0.out⟩
        | false =>
          cases b4 with
          | true =>
            have HC2 : Hid (r = true) := by show _ = _; have := HC.out; simpa using this
            go_enter Try.func44, Try.ntmps44
            go_wp2_with (first | (go_at_call 84; ((with_reducible refine (C0.out _).mono ?_); rintro e W1 ⟨rfl, bb⟩; have B0 := Lib.hid (B0.out.trans (bb.mono (le_box B0.out))); obtain ⟨x0, x1, x2, x3⟩ := box_one B0.out; clear bb)) | (go_at_call 84; ((with_reducible refine (C1.out _).mono ?_); rintro e W1 ⟨rfl, bb⟩; have B0 := Lib.hid (B0.out.trans (bb.mono (le_box B0.out))); obtain ⟨x0, x1, x2, x3⟩ := box_one B0.out; clear bb)) | (go_at_call 84; ((with_reducible refine (C2.out _).mono ?_); rintro e W1 ⟨rfl, bb⟩; have B0 := Lib.hid (B0.out.trans (bb.mono (le_box B0.out))); obtain ⟨x0, x1, x2, x3⟩ := box_one B0.out; clear bb)) | (go_at_call 84; ((with_reducible refine (C3.out _).mono ?_); rintro e W1 ⟨rfl, bb⟩; have B0 := Lib.hid (B0.out.trans (bb.mono (le_box B0.out))); obtain ⟨x0, x1, x2, x3⟩ := box_one B0.out; clear bb)) | (go_at_call 84; ((with_reducible refine (C4.out _).mono ?_); rintro e W1 ⟨rfl, bb⟩; have B0 := Lib.hid (B0.out.trans (bb.mono (le_box B0.out))); obtain ⟨x0, x1, x2, x3⟩ := box_one B0.out; clear bb)))
            go_ret
            exact ⟨ret_bool HC2.out.symm, below_box B0.out⟩
          | false =>
            have HC2 : Hid (r = false) := by show _ = _; have := HC.out; simpa using this
            go_enter Try.func44, Try.ntmps44
            go_wp2_with (first | (go_at_call 84; ((with_reducible refine (C0.out _).mono ?_); rintro e W1 ⟨rfl, bb⟩; have B0 := Lib.hid (B0.out.trans (bb.mono (le_box B0.out))); obtain ⟨x0, x1, x2, x3⟩ := box_one B0.out; clear bb)) | (go_at_call 84; ((with_reducible refine (C1.out _).mono ?_); rintro e W1 ⟨rfl, bb⟩; have B0 := Lib.hid (B0.out.trans (bb.mono (le_box B0.out))); obtain ⟨x0, x1, x2, x3⟩ := box_one B0.out; clear bb)) | (go_at_call 84; ((with_reducible refine (C2.out _).mono ?_); rintro e W1 ⟨rfl, bb⟩; have B0 := Lib.hid (B0.out.trans (bb.mono (le_box B0.out))); obtain ⟨x0, x1, x2, x3⟩ := box_one B0.out; clear bb)) | (go_at_call 84; ((with_reducible refine (C3.out _).mono ?_); rintro e W1 ⟨rfl, bb⟩; have B0 := Lib.hid (B0.out.trans (bb.mono (le_box B0.out))); obtain ⟨x0, x1, x2, x3⟩ := box_one B0.out; clear bb)) | (go_at_call 84; ((with_reducible refine (C4.out _).mono ?_); rintro e W1 ⟨rfl, bb⟩; have B0 := Lib.hid (B0.out.trans (bb.mono (le_box B0.out))); obtain ⟨x0, x1, x2, x3⟩ := box_one B0.out; clear bb)))
            go_ret
            exact ⟨ret_bool HC2.out.symm, below_box B0.out⟩
end Go.Proofs.Ytmffobadnmkpbaa
