/-
  coneyref05's mark, fail, wrong, must, walked.
  coneyref01.Print and Parse, walked: they tell something.
  The words of a text: coneyref04.words and coneyref04.in, walked.
  coneyref04.in, Infix, Prefix, walked.
  coneyref04.Infix, Prefix, walked.
  coneyref05's integer, variable, ends, walked.
  coneyref05's variable, walked.
  coneyref05's ends, walked.
-/
import Derived.Test.YtmffobadnmkpbaaKpars1
import Derived.Test.YtmffobadnmkpbaaRows
import Derived.Test.YtmffobadnmkpbaaKlib1
import Derived.WalkKit
import Derived.WalkSpells
import Derived.WalkLawsBesides
import Derived.Lib.Hide
import Derived.Deep.LoopGhost
namespace Go.Proofs.Ytmffobadnmkpbaa
open Go.RowKit

@[go_sem] theorem fld_tok0 (a b c d : Value) (W : World) : (Instr.field 116 (.agg #[a, b, c, d]) 0).run Try.prog W = .ok a W := by kernel_rfl
@[go_sem] theorem fld_tok2 (a b c d : Value) (W : World) : (Instr.field 116 (.agg #[a, b, c, d]) 2).run Try.prog W = .ok c W := by kernel_rfl
def RetMark (toks : List Tok) (k : Nat) (w : World) (e : Ending) (w' : World) : Prop := ∃ b : Bool, e = .returned (.bool b) ∧ (b = true → k < toks.length) ∧ Below w.heap.size w w'
def RetFail (B : Nat) (s : ByteArray) (lv : Value) (toks : List Tok) (k : Nat) (nv : Value) (ns : List ByteArray) (w : World) (e : Ending) (w' : World) : Prop := ∃ u pl1 e1, e = .returned u ∧ RdAt w' B s lv toks k nv ns pl1 e1 ∧ KR B nv w nv w' ∧ e1 ≠ 0
def RetMust (B : Nat) (s : ByteArray) (lv : Value) (toks : List Tok) (k : Nat) (nv : Value) (ns : List ByteArray) (e0 : Int) (w : World) (e : Ending) (w' : World) : Prop := ∃ u k1 pl1 e1, e = .returned u ∧ RdAt w' B s lv toks k1 nv ns pl1 e1 ∧ KR B nv w nv w' ∧ k ≤ k1 ∧ (e0 ≠ 0 → e1 ≠ 0)

set_option maxRecDepth 100000 in
set_option maxHeartbeats 800000 in
theorem mark_c {w : World} {B : Nat} {s : ByteArray} {lv : Value} {toks : List Tok} {k : Nat} {nv : Value} {ns : List ByteArray} {pl e : Int} (h : RdAt w B s lv toks k nv ns pl e) (hok : TksOk s toks) (x : ByteArray) :
    Calls Try.prog 133 #[.pointer (some ⟨B, 0, none⟩), .string x] w (RetMark toks k w) := by
  have CN := Lib.hid (next_c h hok)
  have hk := tokAt_kind (s := s) (toks := toks) (k := k)
  generalize tokAt s toks k = t at *
  obtain ⟨kd, tx, lo, hi⟩ := t
  by_cases h5 : kd = 5
  · have hk2 : k < toks.length := hk (by dsimp only; omega)
    clear h hok hk
    subst h5
    go_enter Try.func133, Try.ntmps133
    go_wp2_with (go_at_call 104; ((with_reducible refine CN.out.mono ?_); rintro e W1 ⟨rfl, b1⟩; have B1 := Lib.hid b1; clear b1))
    all_goals
      go_ret
      exact ⟨_, rfl, fun _ => hk2, by first | exact B1.out.alloc B1.out.size _⟩
  · have h5b : (kd == 5) = false := by simpa using h5
    clear h hok hk h5
    go_enter Try.func133, Try.ntmps133
    go_wp2_with (go_at_call 104; ((with_reducible refine CN.out.mono ?_); rintro e W1 ⟨rfl, b1⟩; have B1 := Lib.hid b1; clear b1))
    go_ret
    exact ⟨_, rfl, (fun h => by simp at h), B1.out.alloc B1.out.size _⟩
set_option maxRecDepth 100000 in
set_option maxHeartbeats 800000 in
theorem fail_c {w : World} {B : Nat} {s : ByteArray} {lv : Value} {toks : List Tok} {k : Nat} {nv : Value} {ns : List ByteArray} {pl e : Int} (h : RdAt w B s lv toks k nv ns pl e) (p2 x : Int) (hx : x ≠ 0) :
    Calls Try.prog 131 #[.pointer (some ⟨B, 0, none⟩), .int .i64 p2, .int .i64 x] w (RetFail B s lv toks k nv ns w) := by
  have h6 := h.six
  have HR := Lib.hid h
  obtain ⟨c0, c1, c2, c3, c4, c5, f2, f3, f4, f5⟩ := h6
  clear h
  by_cases he : e = 0
  · subst he
    go_enter Try.func131, Try.ntmps131
    go_wp2
    refine bodyPost_ret (results_none rfl _ _ _) rfl ?_
    exact ⟨_, p2, x, rfl, (HR.out.setPl p2).setE x, (KR.setB _ _ _ _ _).trans (KR.setB _ _ _ _ _), hx⟩
  · have heb : (e == 0) = false := by simpa using he
    have HE := Lib.hid he
    clear he
    go_enter Try.func131, Try.ntmps131
    go_wp2
    refine bodyPost_ret (results_none rfl _ _ _) rfl ?_
    exact ⟨_, pl, e, rfl, HR.out, KR.refl _ _ _, HE.out⟩
set_option maxRecDepth 100000 in
set_option maxHeartbeats 800000 in
theorem wrong_c {w : World} {B : Nat} {s : ByteArray} {lv : Value} {toks : List Tok} {k : Nat} {nv : Value} {ns : List ByteArray} {pl e : Int} (h : RdAt w B s lv toks k nv ns pl e) (hok : TksOk s toks) :
    Calls Try.prog 105 #[.pointer (some ⟨B, 0, none⟩)] w (RetFail B s lv toks k nv ns w) := by
  have CN := Lib.hid (next_c h hok)
  have HR := Lib.hid h
  have CF : Hid (∀ W p2, Below w.heap.size w W → Calls Try.prog 131 #[.pointer (some ⟨B, 0, none⟩), .int .i64 p2, .int .i64 50] W (RetFail B s lv toks k nv ns W)) := fun W p2 hW => fail_c (h.later hW) p2 50 (by decide)
  generalize tokAt s toks k = t at *
  obtain ⟨kd, tx, lo, hi⟩ := t
  clear h hok
  go_enter Try.func105, Try.ntmps105
  go_wp2_with (first
    | (go_at_call 104; ((with_reducible refine CN.out.mono ?_); rintro e W1 ⟨rfl, b1⟩; have B1 := Lib.hid b1; clear b1))
    | (go_at_call 131; ((with_reducible refine (CF.out _ _ B1.out).mono ?_); rintro e W2 ⟨u, pl1, e1, rfl, r2, k2, he⟩; have R2 := Lib.hid r2; have K2 := Lib.hid k2; have E2 := Lib.hid he; clear r2 k2 he)))
  go_returns
  exact ⟨_, pl1, e1, rfl, R2.out, (KR.of_below B1.out).trans K2.out, E2.out⟩
set_option maxRecDepth 100000 in
set_option maxHeartbeats 800000 in
theorem must_c {w : World} {B : Nat} {s : ByteArray} {lv : Value} {toks : List Tok} {k : Nat} {nv : Value} {ns : List ByteArray} {pl e : Int} (h : RdAt w B s lv toks k nv ns pl e) (hok : TksOk s toks) (x : ByteArray) :
    Calls Try.prog 154 #[.pointer (some ⟨B, 0, none⟩), .string x] w (RetMust B s lv toks k nv ns e w) := by
  have CM := Lib.hid (mark_c h hok x)
  have HR := Lib.hid h
  have hss := hok.len
  have h6 := h.six
  have hkl := h.le
  have CW : Hid (∀ W, Below w.heap.size w W → Calls Try.prog 105 #[.pointer (some ⟨B, 0, none⟩)] W (RetFail B s lv toks k nv ns W)) := fun W hW => wrong_c (h.later hW) hok
  obtain ⟨c0, c1, c2, c3, c4, c5, f2, f3, f4, f5⟩ := h6
  clear h hok
  by_cases he : e = 0
  · subst he
    go_enter Try.func154, Try.ntmps154
    go_wp2_with (first
      | (go_at_call 133; ((with_reducible refine CM.out.mono ?_); rintro e W1 ⟨b, rfl, hb, b1⟩; have B1 := Lib.hid b1; have HB := Lib.hid hb; obtain ⟨y0, y1, y2, y3, y4, y5, g2, g3, g4, g5⟩ := (HR.out.later b1).six; clear b1 hb; cases b))
      | (go_at_call 105; ((with_reducible refine (CW.out _ B1.out).mono ?_); rintro e W2 ⟨u, pl1, e1, rfl, r2, k2, he⟩; have R2 := Lib.hid r2; have K2 := Lib.hid k2; have E2 := Lib.hid he; clear r2 k2 he)))
    · refine bodyPost_ret (results_none rfl _ _ _) rfl ?_
      exact ⟨_, k, pl1, e1, rfl, R2.out, (KR.of_below B1.out).trans K2.out, Nat.le_refl _, fun _ => E2.out⟩
    · refine bodyPost_ret (results_none rfl _ _ _) rfl ?_
      exact ⟨_, k + 1, pl, 0, rfl, (HR.out.later B1.out).setAt (HB.out (by first | rfl | trivial)), (KR.of_below B1.out).trans (KR.setB _ _ _ _ _), Nat.le_succ _, fun h => h⟩
  · have heb : (e == 0) = false := by simpa using he
    have hen : (e != 0) = true := by simpa using he
    have HE := Lib.hid he
    clear he
    go_enter Try.func154, Try.ntmps154
    go_wp2
    refine bodyPost_ret (results_none rfl _ _ _) rfl ?_
    exact ⟨_, k, pl, e, rfl, HR.out, KR.refl _ _ _, Nat.le_refl _, fun h => h⟩
end Go.Proofs.Ytmffobadnmkpbaa
namespace Go.Proofs.Ytmffobadnmkpbaa
open Go.RowKit

def SomeS (w : World) (e : Ending) (w' : World) : Prop := ∃ T : ByteArray, e = .returned (.string T) ∧ w = w'
theorem wrap_b (n : Int) : -9223372036854775808 ≤ wrap64 n ∧ wrap64 n ≤ 9223372036854775807 := by
  unfold wrap64; omega
theorem pow20 {m : Nat} (h : (m : Int) ≤ 18446744073709551615) : m < 10 ^ 20 := by
  have : (10 : Nat) ^ 20 = 100000000000000000000 := by decide
  omega
theorem pow_step {m n : Nat} (h : m < 10 ^ (n + 1)) : m / 10 < 10 ^ n := by
  rw [Nat.pow_succ] at h
  omega
theorem pow_no {m : Nat} (h : m < 10 ^ 0) : m = 0 := by simpa using h
set_option maxRecDepth 100000 in
set_option maxHeartbeats 800000 in
theorem print1_c (a : Int) (h1 : -9223372036854775808 ≤ a) (h2 : a ≤ 9223372036854775807) (w : World) : Calls Try.prog 183 #[.int .i64 a] w (SomeS w) := by
  have hw : 0 ≤ a → IntKind.u64.wrap a = a := fun h => IntWalk.u64_in a ⟨h, by omega⟩
  have HW := Lib.hid hw
  clear hw
  go_enter Try.func183, Try.ntmps183
  go_wp2
  all_goals
    go_loopg [3, 5] 20 (fun n i t wr => ∃ (m : Nat) (T : ByteArray), i = .int .u64 m ∧ t = .string T ∧ Hid (m < 10 ^ n) ∧ T.size + n ≤ 20 ∧ m ≤ 18446744073709551615 ∧ w = wr)
  case atStart => exact ⟨(-a).toNat, ByteArray.empty, by congr 1; omega, rfl, Lib.hid (pow20 (by omega)), by simp, by omega, rfl⟩
  rotate_left
  case atStart => exact ⟨a.toNat, ByteArray.empty, by rw [HW.out (by omega)]; congr 1; omega, rfl, Lib.hid (pow20 (by omega)), by simp, by omega, rfl⟩
  all_goals
    obtain ⟨m, T, rfl, rfl, HM, hT, hmb, rfl⟩ := hrel
    by_cases h9 : 9 < m
    · obtain ⟨n, rfl⟩ : ∃ n, gk = n + 1 := by
        rcases gk with _ | n
        · have := pow_no HM.out; omega
        · exact ⟨n, rfl⟩
      have HM2 := Lib.hid (pow_step HM.out)
      clear HM
      go_wp2
      go_roundg n
      case measure => omega
      case rel => exact ⟨m / 10, _, by first | rfl | (congr 1; omega), rfl, HM2, by simp [ByteArray.size_extract, ByteArray.size_append]; omega, by omega, rfl⟩
    · clear HM
      have hT2 : T.size ≤ 20 := by omega
      go_wp2
      go_ret
      exact ⟨_, rfl, rfl⟩
def RetInt (w : World) (e : Ending) (w' : World) : Prop := ∃ a x : Int, e = .returned (.tuple #[.int .i64 a, .int .i64 x]) ∧ -9223372036854775808 ≤ a ∧ a ≤ 9223372036854775807 ∧ w = w'
set_option maxRecDepth 100000 in
set_option maxHeartbeats 800000 in
theorem parse1_c (s : ByteArray) (hs : s.size ≤ 4097) (w : World) : Calls Try.prog 174 #[.string s] w (RetInt w) := by
  by_cases h0 : s.size < 1
  · go_enter Try.func174, Try.ntmps174
    go_wp2
    go_ret2
    exact ⟨_, _, rfl, by omega, by omega, rfl⟩
  · by_cases h20 : 20 < s.size
    · go_enter Try.func174, Try.ntmps174
      go_wp2
      go_ret2
      exact ⟨_, _, rfl, by omega, by omega, rfl⟩
    · have CP : Hid (∀ a : Int, -9223372036854775808 ≤ a → a ≤ 9223372036854775807 → ∀ w, Calls Try.prog 183 #[.int .i64 a] w (SomeS w)) := fun a h1 h2 w => print1_c a h1 h2 w
      go_enter Try.func174, Try.ntmps174
      go_wp2
      go_loopg [4, 5] s.size (fun n x i wr => ∃ (k : Nat) (z : Int), k ≤ s.size ∧ x = .int .u64 z ∧ i = .int .i64 k ∧ Hid (n = s.size - k) ∧ w = wr)
      case atStart => exact ⟨0, 0, by omega, rfl, rfl, Lib.hid rfl, rfl⟩
      case round =>
        obtain ⟨k, z, hk, rfl, rfl, HN, rfl⟩ := hrel
        by_cases hlt : k < s.size
        · go_wp2
          all_goals
            go_roundg (s.size - (k + 1))
            case measure => have := HN.out; omega
            case rel => exact ⟨k + 1, _, by omega, rfl, by go_num, Lib.hid rfl, rfl⟩
        · obtain rfl : k = s.size := by omega
          have hb := wrap_b z
          have hb2 := wrap_b (-(wrap64 z))
          have hs1 : 1 ≤ s.size := by omega
          go_wp2_with (go_at_call 183; refine (print1_c _ ?_ ?_ _).mono ?_; (· first | exact hb.1 | exact hb2.1); (· first | exact hb.2 | exact hb2.2); rintro e w' ⟨T, rfl, rfl⟩)
          all_goals
            go_ret2
            first
              | exact ⟨_, _, rfl, by omega, by omega, rfl⟩
              | exact ⟨_, _, rfl, hb.1, hb.2, rfl⟩
              | exact ⟨_, _, rfl, hb2.1, hb2.2, rfl⟩
end Go.Proofs.Ytmffobadnmkpbaa
namespace Go.Proofs.Ytmffobadnmkpbaa
open Go.RowKit

/-- the words of a text, parted at its blanks -/
def wordsL : List UInt8 → List UInt8 → List (List UInt8)
  | [], acc => [acc]
  | c :: r, acc => if c = 32 then acc :: wordsL r [] else wordsL r (acc ++ [c])

def bstr (l : List UInt8) : Value := .string ⟨l.toArray⟩

theorem Try.infoStr : (Try.prog.info? 9).map (fun i => (i.zero, i.size, i.bytes)) = some (some (.string ByteArray.empty), 1, 16) := by kernel_rfl


theorem wordsL_space (r acc : List UInt8) : wordsL (32 :: r) acc = acc :: wordsL r [] := rfl
theorem wordsL_other (c : UInt8) (r acc : List UInt8) (h : c ≠ 32) : wordsL (c :: r) acc = wordsL r (acc ++ [c]) := by simp [wordsL, h]

/-- the relation of the loop: at place k, from the place f on, with the words O gathered -/
def WRel (s : ByteArray) (k f : Nat) (O : List (List UInt8)) : Prop :=
  f ≤ k ∧ (k ≤ s.size → O ++ wordsL (s.data.toList.drop k) ((s.data.toList.take k).drop f) = wordsL s.data.toList []) ∧ (k = s.size + 1 → O = wordsL s.data.toList []) ∧ O.length ≤ k

theorem drop_data (s : ByteArray) (k : Nat) (h : k < s.size) : s.data.toList.drop k = s[k] :: s.data.toList.drop (k + 1) := by
  rw [List.drop_eq_getElem_cons (by simpa using h)]; rfl
theorem extract_list (s : ByteArray) (f k : Nat) : s.extract f k = ⟨((s.data.toList.take k).drop f).toArray⟩ := by
  apply ByteArray.ext
  simp [ByteArray.data_extract, ← Array.toList_inj, Array.toList_extract, List.extract_eq_take_drop, List.drop_take]

theorem owns_snoc {s : ByteArray} {f k : Nat} {w : World} {base : Nat} {e : TypeId} {v : Value} {O : List (List UInt8)} (h : w.ownsRow base e 1 v (O.length + 1) (O.map bstr ++ [.string (s.extract f k)])) :
    w.ownsRow base e 1 v (O ++ [(s.data.toList.take k).drop f]).length ((O ++ [(s.data.toList.take k).drop f]).map bstr) := by
  simpa [bstr, extract_list] using h

theorem WRel.hit {s : ByteArray} {k f : Nat} {O : List (List UInt8)} (h : WRel s k f O) (hk : k = s.size ∨ ∃ hh : k < s.size, s[k] = 32) :
    WRel s (k + 1) (k + 1) (O ++ [(s.data.toList.take k).drop f]) := by
  obtain ⟨h1, h2, h3, h4⟩ := h
  refine ⟨Nat.le_refl _, fun h5 => ?_, fun h5 => ?_, by simp; omega⟩
  · rcases hk with hk | ⟨hh, hc⟩
    · omega
    · have := h2 (by omega)
      rw [drop_data s k hh, hc, wordsL_space] at this
      rw [← this]
      simp
  · have e : k = s.size := by omega
    subst e
    have := h2 (Nat.le_refl _)
    rw [List.drop_eq_nil_of_le (by simp)] at this
    exact this
theorem WRel.miss {s : ByteArray} {k f : Nat} {O : List (List UInt8)} (h : WRel s k f O) (hh : k < s.size) (hc : s[k] ≠ 32) :
    WRel s (k + 1) f O := by
  obtain ⟨h1, h2, h3, h4⟩ := h
  refine ⟨by omega, fun h5 => ?_, fun h5 => by omega, by omega⟩
  have := h2 (by omega)
  rw [drop_data s k hh, wordsL_other _ _ _ hc] at this
  rw [← this, List.take_succ_eq_append_getElem (by simpa using hh), List.drop_append_of_le_length (by simp; omega)]
  rfl

set_option maxRecDepth 100000 in
set_option maxHeartbeats 400000 in
theorem words_any (s : ByteArray) (w : World) (hs : s.size ≤ 4096) :
    Calls Try.prog 178 #[.string s] w fun e w' => ∃ v, e = .returned v ∧ w'.ownsRow w.heap.size 9 1 v (wordsL s.data.toList []).length ((wordsL s.data.toList []).map bstr) ∧ Below w.heap.size w w' := by
  obtain ⟨i0, hi, hz0, hz1, hz2⟩ := info_parts Try.infoStr
  go_enter Try.func178, Try.ntmps178
  go_wp2
  go_loopw [3, 4, 5] (fun v fr i wr => ∃ (k f : Nat) (O : List (List UInt8)), k ≤ s.size + 1 ∧ i = .int .i64 k ∧ fr = .int .i64 f ∧ WRel s k f O ∧ wr.ownsRow w.heap.size 9 1 v O.length (O.map bstr) ∧ Below w.heap.size w wr) (fun _ _ i _ => s.size + 1 - (intOf i).toNat)
  case atStart => exact ⟨0, 0, [], by omega, rfl, rfl, ⟨Nat.le_refl _, by simp, by simp, by simp⟩, World.ownsRow_made _ _ _ (Nat.le_refl _) (by decide) rfl, (Below.refl _ _).alloc (Nat.le_refl _) _⟩
  case round =>
    obtain ⟨k, f, O, hk, rfl, rfl, hR, hown, hbel⟩ := hrel
    have hfk : f ≤ k := hR.1
    have hOk : O.length ≤ k := hR.2.2.2
    by_cases hks : k ≤ s.size
    · by_cases hke : k = s.size
      · subst hke
        have hL := Lib.hid (WRel.hit hR (Or.inl rfl))
        clear hR
        go_wp2_with (first
          | (at_builtin; refine wpList_append1 rfl _ _ 67 rfl w.heap.size 9 i0 (.string ByteArray.empty) 16 Try.underlying67 hi hz0 hz1 hz2 rfl _ _ _ rfl hown (.string (s.extract f s.size)) rfl rfl (by omega) hbel.size ?_))
        intro v' w1 hown1 hbel1 _ _
        have hown2 := owns_snoc (s := s) hown1
        have hbel2 := hbel.trans hbel1
        clear hown hown1 hbel1 hbel
        go_wp2
        go_roundw
        case rel => exact ⟨s.size + 1, s.size + 1, _, Nat.le_refl _, by go_num, by go_num, hL.out, hown2, hbel2⟩
        case measure => simp [intOf]
      · by_cases hc : s[k]'(by omega) = 32
        · have hL := Lib.hid (WRel.hit hR (Or.inr ⟨by omega, hc⟩))
          have hc1 : (((s[k]'(by omega)).toNat : Int) == 32) = true := by rw [hc]; rfl
          have hk1 : ((k : Int) == (s.size : Int)) = false := by simp; omega
          clear hR hc
          go_wp2_with (first
            | (at_builtin; refine wpList_append1 rfl _ _ 67 rfl w.heap.size 9 i0 (.string ByteArray.empty) 16 Try.underlying67 hi hz0 hz1 hz2 rfl _ _ _ rfl hown (.string (s.extract f k)) rfl rfl (by omega) hbel.size ?_))
          intro v' w1 hown1 hbel1 _ _
          have hown2 := owns_snoc (s := s) hown1
          have hbel2 := hbel.trans hbel1
          clear hown hown1 hbel1 hbel
          go_wp2
          go_roundw
          case rel => exact ⟨k + 1, k + 1, _, by omega, by go_num, by go_num, hL.out, hown2, hbel2⟩
          case measure => simp [intOf]; omega
        · have hL := Lib.hid (WRel.miss hR (by omega) hc)
          have hk1 : ((k : Int) == (s.size : Int)) = false := by simp; omega
          have hc1 : (((s[k]'(by omega)).toNat : Int) == 32) = false := by
            rw [beq_eq_false_iff_ne]; intro h; apply hc; apply UInt8.toNat_inj.1; show _ = 32; omega
          clear hR hc
          go_wp2
          go_roundw
          case rel => exact ⟨k + 1, f, _, by omega, by go_num, rfl, hL.out, hown, hbel⟩
          case measure => simp [intOf]; omega
    · have hO : O = wordsL s.data.toList [] := hR.2.2.1 (by omega)
      subst hO
      clear hR hOk
      go_wp2
      go_ret
      exact ⟨_, rfl, hown, hbel⟩
end Go.Proofs.Ytmffobadnmkpbaa
namespace Go.Proofs.Ytmffobadnmkpbaa
open Go.RowKit

def inB (name s : ByteArray) : Bool := (wordsL s.data.toList []).contains name.toList

theorem wordsL_pos (l : List UInt8) : ∀ acc, 0 < (wordsL l acc).length := by
  induction l with
  | nil => intro acc; simp [wordsL]
  | cons c r ih => intro acc; unfold wordsL; split <;> simp [ih]

theorem wordsL_len (l : List UInt8) : ∀ acc, (wordsL l acc).length ≤ l.length + 1 := by
  induction l with
  | nil => intro acc; simp [wordsL]
  | cons c r ih => intro acc; unfold wordsL; split <;> simp [ih] <;> (have := ih (acc ++ [c]); omega)

theorem take_contains {α : Type} [BEq α] [LawfulBEq α] (L : List α) (x : α) (k : Nat) (h : k < L.length) : (L.take (k + 1)).contains x = ((L.take k).contains x || L[k] == x) := by
  rw [List.take_succ_eq_append_getElem h, List.contains_eq_any_beq, List.any_append, List.contains_eq_any_beq]
  congr 1
  simp only [List.any_cons, List.any_nil, Bool.or_false]
  exact BEq.comm
theorem contains_of_take {α : Type} [BEq α] [LawfulBEq α] (L : List α) (x : α) (k : Nat) (h : k < L.length) (he : (L[k] == x) = true) : L.contains x = true := by
  rw [List.contains_iff_mem, ← eq_of_beq he]; exact List.getElem_mem h

set_option maxRecDepth 100000 in
set_option maxHeartbeats 400000 in
theorem in_any (name s : ByteArray) (w : World) (hs : s.size ≤ 4096) :
    Calls Try.prog 159 #[.string name, .string s] w fun e w' => e = .returned (.bool (inB name s)) ∧ Below w.heap.size w w' := by
  go_enter Try.func159, Try.ntmps159
  go_wp2_with (first | (go_at_call 178; refine (words_any _ _ hs).mono ?_))
  rintro e w1 ⟨v, rfl, hown, hbel⟩
  go_wp2
  obtain ⟨L, hL⟩ : ∃ L, L = wordsL s.data.toList [] := ⟨_, rfl⟩
  have hlen : L.length ≤ 4097 := by rw [hL]; have := wordsL_len s.data.toList []; simp at this; omega
  rw [← hL] at hown
  obtain ⟨g, cap, rfl, hg, hcell⟩ := owns_pos hown (by rw [hL]; exact wordsL_pos _ _)
  have HL : Hid (inB name s = L.contains name.toList) := by show _ = _; rw [hL]; rfl
  clear hL hown
  go_loop [6] (fun i => ∃ k : Nat, k ≤ L.length ∧ i = .int .i64 k ∧ (L.take k).contains name.toList = false) (fun i => L.length - (intOf i).toNat)
  case atStart => exact ⟨0, by omega, rfl, by simp⟩
  case round =>
    obtain ⟨k, hk, rfl, hnot⟩ := hrel
    have HN := Lib.hid hnot
    clear hnot
    by_cases hlt : k < L.length
    · have hc : w1.cell? ⟨g, k, none⟩ = some (.string ⟨L[k].toArray⟩) := by rw [hcell k (by simpa using hlt)]; simp [bstr, hlt]
      clear hcell
      cases he : (L[k] == name.toList)
      · go_wp2
        go_round
        case rel => exact ⟨k + 1, by omega, by go_num, by rw [take_contains _ _ _ hlt, HN.out, he]; rfl⟩
        case measure => simp [intOf]; omega
      · have HC := Lib.hid (contains_of_take L _ k hlt he)
        go_wp2
        go_ret
        exact ⟨ret_bool (by rw [HL.out, HC.out]), hbel⟩
    · have HC : Hid (L.contains name.toList = false) := by have := HN.out; rwa [List.take_of_length_le (by omega)] at this
      clear hcell
      go_wp2
      go_ret
      exact ⟨ret_bool (by rw [HL.out, HC.out]), hbel⟩
end Go.Proofs.Ytmffobadnmkpbaa
namespace Go.Proofs.Ytmffobadnmkpbaa
open Go.RowKit

def sevens : ByteArray := ⟨([61, 32, 92, 61, 32, 61, 61, 32, 92, 61, 61, 32, 64, 60, 32, 64, 62, 32, 64, 61, 60, 32, 64, 62, 61, 32, 105, 115, 32, 61, 58, 61, 32, 61, 92, 61, 32, 60, 32, 62, 32, 61, 60, 32, 62, 61, 32, 61, 46, 46, 32, 35, 61, 32, 35, 92, 61, 32, 35, 60, 32, 35, 62, 32, 35, 61, 60, 32, 35, 62, 61, 32, 105, 110] : List UInt8).toArray⟩

/-- the document's infix operator of a name -/
def refInfix (n : ByteArray) : Int × Int × Int × Bool :=
  if inB n ⟨#[58, 45]⟩ = true then (1200, 1199, 1199, true)
  else if inB n ⟨#[59]⟩ = true then (1100, 1099, 1100, true)
  else if inB n ⟨#[45, 62]⟩ = true then (1050, 1049, 1050, true)
  else if inB n ⟨#[44]⟩ = true then (1000, 999, 1000, true)
  else if inB n ⟨#[35, 60, 61, 62]⟩ = true then (760, 759, 759, true)
  else if inB n sevens = true then (700, 699, 699, true)
  else if inB n ⟨#[92, 47]⟩ = true then (550, 550, 549, true)
  else if inB n ⟨#[46, 46]⟩ = true then (450, 449, 449, true)
  else if inB n ⟨#[43, 32, 45]⟩ = true then (500, 500, 499, true)
  else if inB n ⟨#[42, 32, 47, 47, 32, 114, 101, 109, 32, 109, 111, 100, 32, 100, 105, 118]⟩ = true then (400, 400, 399, true)
  else if inB n ⟨#[94]⟩ = true then (200, 199, 200, true)
  else (0, 0, 0, false)
def refPrefix (n : ByteArray) : Int × Int × Bool :=
  if inB n ⟨#[58, 45]⟩ = true then (1200, 1199, true)
  else if inB n ⟨#[92, 43]⟩ = true then (900, 900, true)
  else if inB n ⟨#[43, 32, 45]⟩ = true then (200, 200, true)
  else (0, 0, false)

def tup4 (x : Int × Int × Int × Bool) : Value := .tuple #[.int .i64 x.1, .int .i64 x.2.1, .int .i64 x.2.2.1, .bool x.2.2.2]
def tup3 (x : Int × Int × Bool) : Value := .tuple #[.int .i64 x.1, .int .i64 x.2.1, .bool x.2.2]

set_option maxRecDepth 100000 in
set_option maxHeartbeats 800000 in
theorem refPrefix_any (name : ByteArray) (w : World) :
    Calls Try.prog 176 #[.string name] w fun e w' => e = .returned (tup3 (refPrefix name)) ∧ Below w.heap.size w w' := by
  have hB := Below.refl w.heap.size w
  go_enter Try.func176, Try.ntmps176
  go_wp2_with (first | (go_at_call 159; refine (carry (in_any _ _ _ (by decide)) hB).mono ?_; clear hB; rintro e w' ⟨rfl, hB⟩))
  all_goals go_ret3
  all_goals exact ⟨by simp [refPrefix, tup3, *], by assumption⟩

set_option maxRecDepth 100000 in
set_option maxHeartbeats 1600000 in
theorem refInfix_any (name : ByteArray) (w : World) :
    Calls Try.prog 134 #[.string name] w fun e w' => e = .returned (tup4 (refInfix name)) ∧ Below w.heap.size w w' := by
  have hB := Below.refl w.heap.size w
  go_enter Try.func134, Try.ntmps134
  go_wp2_with (first | (go_at_call 159; refine (carry (in_any _ _ _ (by decide)) hB).mono ?_; clear hB; rintro e w' ⟨rfl, hB⟩))
  go_ways
  all_goals refine bodyPost_ret (v := tup4 (refInfix name)) (by simp [results, Try.results134, go_sem, tup4, refInfix, sevens, *]) rfl ⟨rfl, by assumption⟩
end Go.Proofs.Ytmffobadnmkpbaa
namespace Go.Proofs.Ytmffobadnmkpbaa
open Go.RowKit

/-- a block that is new, and stays -/
def Nw (B : Nat) (v : Value) (w w' : World) (b : Nat) : Prop := w.heap.size ≤ b ∧ Gd B v w' b
def RetTm (B : Nat) (s : ByteArray) (lv : Value) (toks : List Tok) (k : Nat) (nv : Value) (e0 : Int) (w : World) (ex : Ending) (w' : World) : Prop :=
  ∃ k1 nv1 ns1 pl1 e1 t a, ex = .returned (tmV t a) ∧ RdAt w' B s lv toks k1 nv1 ns1 pl1 e1 ∧ KR B nv w nv1 w' ∧ k ≤ k1 ∧ (e0 ≠ 0 → e1 ≠ 0) ∧ TmAt (Nw B nv1 w w') w' t a ∧ t.size ≤ 2 * (k1 - k) + 1 ∧ (e1 = 0 → t.ok)
theorem RdAt.put {w : World} {B : Nat} {s : ByteArray} {lv : Value} {toks : List Tok} {k : Nat} {nv : Value} {ns : List ByteArray} {pl e : Int} (h : RdAt w B s lv toks k nv ns pl e) {R : Nat} (hR : B < R) (hn : nv.ownBlock ≠ some R) (t : Tm) (a : Value) : RdAt (put4 w R t a) B s lv toks k nv ns pl e := by
  refine ⟨h.box.block (put4_heap _ _ _ _ _ (by omega)), h.tks.mono fun b hb _ => put4_heap _ _ _ _ _ (by omega), ?_, h.le, h.nle⟩
  refine ⟨h.nms.1, ?_⟩
  rcases h.nms.2 with hx | ⟨g, cap, cur, rfl, hg, hgg, rest⟩
  · exact .inl hx
  · exact .inr ⟨g, cap, cur, rfl, hg, by rw [put4_heap _ _ _ _ _ (by intro he; subst he; exact hn rfl)]; exact hgg, rest⟩
theorem KR.put {B : Nat} {v v' : Value} {w W : World} (h : KR B v w v' W) {R : Nat} (hR : w.heap.size ≤ R) (t : Tm) (a : Value) : KR B v w v' (put4 W R t a) :=
  ⟨h.os, h.tape, h.output, by rw [put4_size]; exact h.size, fun b hb hB hv => by rw [put4_heap _ _ _ _ _ (by omega)]; exact h.block b hb hB hv, h.own⟩
theorem KR.own_ne {B : Nat} {v v' : Value} {w W : World} (h : KR B v w v' W) {R : Nat} (hv : ∀ g, v.ownBlock = some g → g < R) (hR : R < w.heap.size) : v'.ownBlock ≠ some R := by
  intro he
  rcases h.own with e | e
  · rw [e] at he; have := hv R he; omega
  · have := e R he; omega

theorem kr_box {B : Nat} {v v' : Value} {w W : World} (h : KR B v w v' W) {R : Nat} {cs : List Value} (hb : BoxL w R cs) (hp : 0 < cs.length) (hB : R ≠ B) (hv : v.ownBlock ≠ some R) : BoxL W R cs :=
  hb.block (h.block R (hb.lt hp) hB hv)
theorem minus_size {T : ByteArray} (h : T.size ≤ 4096) : (({ data := #[45] } : ByteArray) ++ T).size ≤ 4097 := by
  rw [ByteArray.size_append]
  show 1 + T.size ≤ _
  omega
theorem int_or0 (x : Int) : x = 0 ∨ (Hid (x ≠ 0) ∧ (x != 0) = true) := by
  by_cases h : x = 0
  · exact .inl h
  · exact .inr ⟨Lib.hid h, by simpa using h⟩
/-- the result's cells behind a block -/
theorem box_new2 (w : World) (o : Obj) (cs : Array Value) (T : TypeId) : BoxL ((w.alloc o).alloc (.cells cs T)) (w.heap.size + 1) cs.toList := by
  have h := BoxL.mk' (w.alloc o) cs T
  simpa using h
theorem below_new2 (w : World) (o1 o2 : Obj) : Below w.heap.size w ((w.alloc o1).alloc o2) := ((Below.refl _ _).alloc (Nat.le_refl _) _).alloc (by simp) _
set_option maxRecDepth 100000 in
set_option maxHeartbeats 1600000 in
theorem integer_c {w : World} {B : Nat} {s : ByteArray} {lv : Value} {toks : List Tok} {k : Nat} {nv : Value} {ns : List ByteArray} {pl e : Int} (h : RdAt w B s lv toks k nv ns pl e) (t : Tok) (ht : t.text.size ≤ 4096) (b : Bool) :
    Calls Try.prog 152 #[.pointer (some ⟨B, 0, none⟩), .agg #[.int .i64 t.kind, .string t.text, .int .i64 t.lo, .int .i64 t.hi], .bool b] w (RetTm B s lv toks k nv e w) := by
  obtain ⟨kd, tx, lo, hi⟩ := t
  dsimp only at ht ⊢
  have hlt := h.lt
  have HR := Lib.hid h
  have CF : Hid (∀ W, Below w.heap.size w W → Calls Try.prog 131 #[.pointer (some ⟨B, 0, none⟩), .int .i64 lo, .int .i64 51] W (RetFail B s lv toks k nv ns W)) := fun W hW => fail_c (h.later hW) lo 51 (by decide)
  have CP : Hid (∀ T : ByteArray, T.size ≤ 4097 → ∀ W, Calls Try.prog 174 #[.string T] W (RetInt W)) := fun T hT W => parse1_c T hT W
  clear h
  have HNE : Hid (nv.ownBlock ≠ some (w.heap.size + 1)) := fun e => by have := HR.out.own_lt _ e; omega
  cases b
  all_goals
    go_enter Try.func152, Try.ntmps152
    go_wp2
    go_loopg [7] 4096 (fun n v wr => ∃ T : ByteArray, v = .string T ∧ T.size ≤ n ∧ T.size ≤ 4096 ∧ (w.alloc (.cells #[.int .i64 kd, .string tx, .int .i64 lo, .int .i64 hi] 116)).alloc (.cells #[.int .i64 0, .int .i64 0, .string ⟨#[]⟩, .slice none 0 0] 24) = wr)
    case atStart => exact ⟨tx, rfl, ht, ht, rfl⟩
    case round =>
      obtain ⟨T, rfl, hT, hT2, rfl⟩ := hrel
      by_cases h1 : 1 < T.size
      · have hg : 0 < gk := by omega
        go_wp2_with (first
          | (go_at_call 174; (refine (parse1_c _ ?_ _).mono ?_); (· first | omega | exact minus_size hT2); rintro e w' ⟨n, x, rfl, hn1, hn2, rfl⟩; have HN := Lib.hid (And.intro hn1 hn2); clear hn1 hn2; rcases int_or0 x with rfl | ⟨HX, hx⟩)
          | (go_at_call 131; ((with_reducible refine (CF.out _ ?_).mono ?_); (· exact below_new2 _ _ _); rintro e W2 ⟨u, pl1, e1, rfl, r2, k2, he⟩; have R2 := Lib.hid r2; have K2 := Lib.hid k2; have E2 := Lib.hid he; obtain ⟨x0, fx0⟩ := (kr_box k2 (box_new2 _ _ _ _) (by simp) (by omega) HNE.out).get 0 rfl; obtain ⟨x1, fx1⟩ := (kr_box k2 (box_new2 _ _ _ _) (by simp) (by omega) HNE.out).get 1 rfl; obtain ⟨x2, fx2⟩ := (kr_box k2 (box_new2 _ _ _ _) (by simp) (by omega) HNE.out).get 2 rfl; obtain ⟨x3, fx3⟩ := (kr_box k2 (box_new2 _ _ _ _) (by simp) (by omega) HNE.out).get 3 rfl; clear r2 k2 he)))
        all_goals first
          | (go_roundg (gk - 1); (case measure => omega); (case rel => exact ⟨_, rfl, by simp; omega, by simp; omega, rfl⟩))
          | (refine bodyPost_ret (v := tmV (.int n) (.slice none 0 0)) (by simp [results, Try.results152, go_sem, tmV, Tm.kind, Tm.num, Tm.name, x0, x1, x2, x3]; try rfl) rfl ?_
             exact ⟨k, nv, ns, pl1, e1, .int n, _, rfl, R2.out.put (R := w.heap.size + 1) (by omega) HNE.out (.int n) (.slice none 0 0), ((KR.of_below (below_new2 _ _ _)).trans K2.out).put (by omega) (.int n) (.slice none 0 0), Nat.le_refl _, fun _ => E2.out, .leaf rfl, by simp [Tm.size], fun h => absurd h E2.out⟩)
          | (refine bodyPost_ret (v := tmV (.int n) (.slice none 0 0)) (by simp [results, Try.results152, go_sem, tmV, Tm.kind, Tm.num, Tm.name]; try rfl) rfl ?_
             exact ⟨k, nv, ns, pl, e, .int n, _, rfl, HR.out.later (below_new2 _ _ _), KR.of_below (below_new2 _ _ _), Nat.le_refl _, fun h => h, .leaf rfl, by simp [Tm.size], fun _ => .int HN.out.1 HN.out.2⟩)
      · go_wp2_with (first
          | (go_at_call 174; (refine (parse1_c _ ?_ _).mono ?_); (· first | omega | exact minus_size hT2); rintro e w' ⟨n, x, rfl, hn1, hn2, rfl⟩; have HN := Lib.hid (And.intro hn1 hn2); clear hn1 hn2; rcases int_or0 x with rfl | ⟨HX, hx⟩)
          | (go_at_call 131; ((with_reducible refine (CF.out _ ?_).mono ?_); (· exact below_new2 _ _ _); rintro e W2 ⟨u, pl1, e1, rfl, r2, k2, he⟩; have R2 := Lib.hid r2; have K2 := Lib.hid k2; have E2 := Lib.hid he; obtain ⟨x0, fx0⟩ := (kr_box k2 (box_new2 _ _ _ _) (by simp) (by omega) HNE.out).get 0 rfl; obtain ⟨x1, fx1⟩ := (kr_box k2 (box_new2 _ _ _ _) (by simp) (by omega) HNE.out).get 1 rfl; obtain ⟨x2, fx2⟩ := (kr_box k2 (box_new2 _ _ _ _) (by simp) (by omega) HNE.out).get 2 rfl; obtain ⟨x3, fx3⟩ := (kr_box k2 (box_new2 _ _ _ _) (by simp) (by omega) HNE.out).get 3 rfl; clear r2 k2 he)))
        all_goals first
          | (go_roundg (gk - 1); (case measure => omega); (case rel => exact ⟨_, rfl, by simp; omega, by simp; omega, rfl⟩))
          | (refine bodyPost_ret (v := tmV (.int n) (.slice none 0 0)) (by simp [results, Try.results152, go_sem, tmV, Tm.kind, Tm.num, Tm.name, x0, x1, x2, x3]; try rfl) rfl ?_
             exact ⟨k, nv, ns, pl1, e1, .int n, _, rfl, R2.out.put (R := w.heap.size + 1) (by omega) HNE.out (.int n) (.slice none 0 0), ((KR.of_below (below_new2 _ _ _)).trans K2.out).put (by omega) (.int n) (.slice none 0 0), Nat.le_refl _, fun _ => E2.out, .leaf rfl, by simp [Tm.size], fun h => absurd h E2.out⟩)
          | (refine bodyPost_ret (v := tmV (.int n) (.slice none 0 0)) (by simp [results, Try.results152, go_sem, tmV, Tm.kind, Tm.num, Tm.name]; try rfl) rfl ?_
             exact ⟨k, nv, ns, pl, e, .int n, _, rfl, HR.out.later (below_new2 _ _ _), KR.of_below (below_new2 _ _ _), Nat.le_refl _, fun h => h, .leaf rfl, by simp [Tm.size], fun _ => .int HN.out.1 HN.out.2⟩)
end Go.Proofs.Ytmffobadnmkpbaa
namespace Go.Proofs.Ytmffobadnmkpbaa
open Go.RowKit

theorem Try.infoStr5 : (Try.prog.info? 9).map (fun i => (i.zero, i.size, i.bytes)) = some (some (.string ByteArray.empty), 1, 16) := by kernel_rfl
/-- the names' row has grown -/
theorem KR.grow {B : Nat} {nv nv' : Value} {w W W' : World} (h : KR B nv w nv W) (hk : KeepsBut W W' nv) (hb : Below B W W') (hl : nv'.ownBlock = nv.ownBlock ∨ ∀ g, nv'.ownBlock = some g → w.heap.size ≤ g) : KR B nv w nv' W' :=
  ⟨hb.os.trans h.os, hb.tape.trans h.tape, hb.output.trans h.output, Nat.le_trans h.size hb.size, fun b h1 h2 h3 => by rw [hk b (Nat.lt_of_lt_of_le h1 h.size) h3]; exact h.block b h1 h2 h3, hl⟩
theorem RdAt.names {w W : World} {B : Nat} {s : ByteArray} {lv : Value} {toks : List Tok} {k : Nat} {nv nv' : Value} {ns ns' : List ByteArray} {pl e : Int} (h : RdAt w B s lv toks k nv ns pl e) (hb : Below (B + 1) w W) (hn : W.ownsRow (B + 1) 9 1 nv' ns'.length (ns'.map Value.string)) (hl : ns'.length ≤ k) :
    RdAt (W.setCell ⟨B, 3, none⟩ nv') B s lv toks k nv' ns' pl e := by
  have hbox : BoxL W B [.string s, lv, .int .i64 k, nv, .int .i64 pl, .int .i64 e] := h.box.below hb (Nat.lt_succ_self _)
  exact ⟨by simpa using hbox.set 3 (by simp) nv', (h.tks.mono fun b hB _ => hb.block b (by omega)).set _ _, own_set hn (Nat.lt_succ_self _) _, h.le, hl⟩
theorem lies_new {w : World} {o : Obj} {nv : Value} {g n cap : Nat} (h : nv.ownBlock = some g ∨ (w.alloc o).heap.size ≤ g) : (Value.slice (some ⟨g, 0, none⟩) n cap).ownBlock = nv.ownBlock ∨ ∀ g', (Value.slice (some ⟨g, 0, none⟩) n cap).ownBlock = some g' → w.heap.size ≤ g' := by
  rcases h with h | h
  · exact .inl h.symm
  · refine .inr fun g' hg => ?_
    simp only [Value.ownBlock, Option.some.injEq] at hg
    simp at h; omega
theorem own_not {w : World} {o : Obj} {nv : Value} {g n cap : Nat} (h : nv.ownBlock = some g ∨ (w.alloc o).heap.size ≤ g) (hl : ∀ g, nv.ownBlock = some g → g < w.heap.size) : (Value.slice (some ⟨g, 0, none⟩) n cap).ownBlock ≠ some w.heap.size := by
  intro he
  simp only [Value.ownBlock, Option.some.injEq] at he
  rcases h with h | h
  · have := hl g h; omega
  · simp at h; omega
theorem names_snoc {w : World} {base : Nat} {e : TypeId} {v : Value} {ns : List ByteArray} {x : ByteArray} (h : w.ownsRow base e 1 v (ns.length + 1) (ns.map Value.string ++ (#[.string x] : Array Value).toList)) : w.ownsRow base e 1 v (ns ++ [x]).length ((ns ++ [x]).map Value.string) := by simpa using h

set_option maxRecDepth 100000 in
set_option maxHeartbeats 1600000 in
theorem variable_c {w : World} {B : Nat} {s : ByteArray} {lv : Value} {toks : List Tok} {k : Nat} {nv : Value} {ns : List ByteArray} {pl e : Int} (h : RdAt w B s lv toks k nv ns pl e) (hok : TksOk s toks) (hns : ns.length < k) (x : ByteArray) (_hx : x.size ≤ 4096) :
    Calls Try.prog 153 #[.pointer (some ⟨B, 0, none⟩), .string x] w (RetTm B s lv toks k nv e w) := by
  obtain ⟨i0, hi, hz0, hz1, hz2⟩ := info_parts Try.infoStr5
  have hB := h.lt
  have HR := Lib.hid h
  have hll := hok.len
  have hle := h.le
  obtain ⟨oa, oc, rfl, _⟩ := (SlAt.of_own h.nms).shape
  obtain ⟨c0, c1, c2, c3, c4, c5, f2, f3, f4, f5⟩ := h.six
  have HLOW : Hid (∀ g, (Value.slice oa ns.length oc).ownBlock = some g → g < w.heap.size) := h.own_lt
  have HCN : Hid (∀ i, i < ns.length → ∃ g y, oa = some ⟨g, 0, none⟩ ∧ ∀ o, (w.alloc o).cell? ⟨g, i, none⟩ = some (.string y)) := fun i hi => by
    obtain ⟨g, cap, he, _, hc⟩ := owns_pos h.nms (by omega)
    simp only [Value.slice.injEq, true_and] at he
    obtain ⟨rfl, _⟩ := he
    exact ⟨g, ns[i], rfl, fun o => Lib.cell?_alloc_some o (by rw [hc i (by omega)]; simp [hi])⟩
  clear h hok
  generalize hn : ns.length = n at *
  have HN := Lib.hid hn
  clear hn
  go_enter Try.func153, Try.ntmps153
  go_wp2
  go_loopg [5] n (fun m v wr => ∃ i : Nat, i ≤ n ∧ v = .int .i64 i ∧ Hid (m = n - i) ∧ w.alloc (.cells #[.int .i64 0, .int .i64 0, .string ⟨#[]⟩, .slice none 0 0] 24) = wr)
  case atStart => exact ⟨0, by omega, rfl, Lib.hid rfl, rfl⟩
  case round =>
    obtain ⟨i, hin, rfl, HM, rfl⟩ := hrel
    by_cases hlt : i < n
    · obtain ⟨g, y, rfl, hc⟩ := HCN.out i hlt
      clear HCN
      go_wp2
      all_goals first
        | (go_roundg (n - (i + 1)); (case measure => have := HM.out; omega); (case rel => exact ⟨i + 1, by omega, by go_num, Lib.hid rfl, rfl⟩))
        | (refine bodyPost_ret (v := tmV (.var i) (.slice none 0 0)) (by simp [results, Try.results153, go_sem, tmV, Tm.kind, Tm.num, Tm.name]; try rfl) rfl ?_
           exact ⟨k, _, ns, pl, e, .var i, _, rfl, HR.out.later ((Below.refl _ _).alloc (Nat.le_refl _) _), KR.of_below ((Below.refl _ _).alloc (Nat.le_refl _) _), Nat.le_refl _, fun h => h, .leaf rfl, by simp [Tm.size], fun _ => .var (by omega)⟩)
    · obtain rfl : i = n := by omega
      go_wp2_with (at_builtin; (refine wpList_appendX rfl (.tmp 34) (.tmp 36) 67 rfl (B + 1) 9 i0 (.string ByteArray.empty) 1 16 Try.underlying67 hi hz0 hz1 hz2 rfl (by decide) _ i (ns.map Value.string) rfl ?_ _ _ rfl ?_ rfl (one1 rfl) ⟨by omega, by omega⟩ ?_ ?_; (· have := HR.out.nms.alloc (.cells #[.int .i64 0, .int .i64 0, .string ⟨#[]⟩, .slice none 0 0] 24); rwa [HN.out] at this); (· simp); (· simp; omega); intro g cap w2 hown2 hbel2 hkb2 hlie2; have HO2 := Lib.hid hown2; have HB2 := Lib.hid hbel2; have HK2 := Lib.hid hkb2; have HL2 := Lib.hid hlie2; obtain ⟨y3, g3⟩ := ((HR.out.later ((Below.refl _ _).alloc (Nat.le_refl _) _)).box.below hbel2 (Nat.lt_succ_self _)).get 3 rfl; have hres := Lib.hid ((BoxL.mk' w _ 24).kept (by simp) hkb2 (fun he => by have := HLOW.out _ he; omega)); obtain ⟨x0, fx0⟩ := hres.out.get 0 rfl; obtain ⟨x1, fx1⟩ := hres.out.get 1 rfl; obtain ⟨x2, fx2⟩ := hres.out.get 2 rfl; obtain ⟨x3, fx3⟩ := hres.out.get 3 rfl; clear hown2 hbel2 hkb2 hlie2 hres))
      have hni := HN.out
      subst hni
      have k1 : KR B (.slice oa ns.length oc) w (.slice (some ⟨g, 0, none⟩) (ns.length + 1) cap) w2 := (KR.of_below ((Below.refl _ _).alloc (Nat.le_refl _) _)).grow HK2.out (HB2.out.mono (Nat.le_succ _)) (lies_new HL2.out)
      have r1 := (HR.out.later ((Below.refl _ _).alloc (Nat.le_refl _) _)).names HB2.out (ns' := ns ++ [x]) (names_snoc HO2.out) (by simp; omega)
      have k2 := (k1.trans (KR.setB B _ w2 3 (.slice (some ⟨g, 0, none⟩) (ns.length + 1) cap))).put (R := w.heap.size) (Nat.le_refl _) (.var ns.length) (.slice none 0 0)
      have r2 := r1.put (R := w.heap.size) hB (own_not HL2.out HLOW.out) (.var ns.length) (.slice none 0 0)
      refine bodyPost_ret (v := tmV (.var ns.length) (.slice none 0 0)) (by simp [results, Try.results153, go_sem, tmV, Tm.kind, Tm.num, Tm.name, x0, x1, x2, x3]; try rfl) rfl ?_
      exact ⟨k, _, ns ++ [x], pl, e, .var ns.length, _, rfl, r2, k2, Nat.le_refl _, fun h => h, .leaf rfl, by simp [Tm.size], fun _ => .var (by omega)⟩
end Go.Proofs.Ytmffobadnmkpbaa
namespace Go.Proofs.Ytmffobadnmkpbaa
open Go.RowKit

def RetInf (w : World) (e : Ending) (w' : World) : Prop := ∃ (a b c : Int) (d : Bool), e = .returned (.tuple #[.int .i64 a, .int .i64 b, .int .i64 c, .bool d]) ∧ Below w.heap.size w w'
def RetPre (w : World) (e : Ending) (w' : World) : Prop := ∃ (a b : Int) (d : Bool), e = .returned (.tuple #[.int .i64 a, .int .i64 b, .bool d]) ∧ Below w.heap.size w w'
def RetB (w : World) (e : Ending) (w' : World) : Prop := ∃ b : Bool, e = .returned (.bool b) ∧ Below w.heap.size w w'
theorem inf_c (x : ByteArray) (w : World) : Calls Try.prog 134 #[.string x] w (RetInf w) := (refInfix_any x w).mono fun _ _ ⟨he, hb⟩ => ⟨_, _, _, _, he, hb⟩
theorem pre_c (x : ByteArray) (w : World) : Calls Try.prog 176 #[.string x] w (RetPre w) := (refPrefix_any x w).mono fun _ _ ⟨he, hb⟩ => ⟨_, _, _, he, hb⟩
theorem box_below {w w' : World} {cs : Array Value} {T : TypeId} (h : Below (w.alloc (.cells cs T)).heap.size (w.alloc (.cells cs T)) w') : BoxL w' w.heap.size cs.toList :=
  (BoxL.mk' w cs T).below h (by simp)
theorem below_al {w0 w w' : World} {o : Obj} (h0 : Below w0.heap.size w0 w) (h : Below (w.alloc o).heap.size (w.alloc o) w') : Below w0.heap.size w0 w' :=
  (h0.alloc h0.size o).trans (h.mono (by have := h0.size; simp; omega))

set_option maxRecDepth 100000 in
set_option maxHeartbeats 1600000 in
theorem ends_c {w : World} {B : Nat} {s : ByteArray} {lv : Value} {toks : List Tok} {k : Nat} {nv : Value} {ns : List ByteArray} {pl e : Int} (h : RdAt w B s lv toks k nv ns pl e) (hok : TksOk s toks) :
    Calls Try.prog 177 #[.pointer (some ⟨B, 0, none⟩)] w (RetB w) := by
  have CN := Lib.hid (next_c h hok)
  generalize tokAt s toks k = t at *
  obtain ⟨kd, tx, lo, hi⟩ := t
  clear h hok
  go_enter Try.func177, Try.ntmps177
  go_wp2_with (first
    | (go_at_call 104; ((with_reducible refine CN.out.mono ?_); rintro e W1 ⟨rfl, b1⟩; have B1 := Lib.hid b1; clear b1))
    | (go_at_call 134; (refine (inf_c _ _).mono ?_); rintro e W2 ⟨a, b, c, d, rfl, b2⟩; obtain ⟨x1, fx1⟩ := (box_below b2).get 1 rfl; have B2 := Lib.hid (below_al B1.out b2); clear b2)
    | (go_at_call 176; (refine (pre_c _ _).mono ?_); rintro e W3 ⟨a3, b3, d3, rfl, bb3⟩; have B3 := Lib.hid (B2.out.trans (bb3.mono B2.out.size)); clear bb3))
  all_goals
    go_ret
    first
      | exact ⟨_, rfl, B3.out⟩
      | exact ⟨_, rfl, B1.out.alloc B1.out.size _⟩
end Go.Proofs.Ytmffobadnmkpbaa
