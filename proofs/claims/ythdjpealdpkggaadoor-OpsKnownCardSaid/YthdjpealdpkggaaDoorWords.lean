/-
  The words of a text: coneyref04.words and coneyref04.in, walked.
-/
import Derived.Test.YthdjpealdpkggaaDoorRows
import Derived.Test.YthdjpealdpkggaaDoorLib
import Derived.WalkKit
import Derived.WalkSpells
import Derived.WalkLawsBesides
import Derived.Lib.Hide
namespace Go.Proofs.YthdjpealdpkggaaDoor
open Go.RowKit

/-- the words of a text, parted at its blanks -/
def wordsL : List UInt8 → List UInt8 → List (List UInt8)
  | [], acc => [acc]
  | c :: r, acc => if c = 32 then acc :: wordsL r [] else wordsL r (acc ++ [c])

def bstr (l : List UInt8) : Value := .string ⟨l.toArray⟩

theorem Tryd.infoStr : (Tryd.prog.info? 9).map (fun i => (i.zero, i.size, i.bytes)) = some (some (.string ByteArray.empty), 1, 16) := by kernel_rfl


theorem wordsL_space (r acc : List UInt8) : wordsL (32 :: r) acc = acc :: wordsL r [] := rfl
theorem wordsL_other (c : UInt8) (r acc : List UInt8) (h : c ≠ 32) : wordsL (c :: r) acc = wordsL r (acc ++ [c]) := by simp [wordsL, h]

/-- the relation of the loop: at place k, from the place f on, with the words O gathered -/
def WRel (s : ByteArray) (k f : Nat) (O : List (List UInt8)) : Prop :=
  f ≤ k ∧ (k ≤ s.size → O ++ wordsL (s.data.toList.drop k) ((s.data.toList.take k).drop f) = wordsL s.data.toList []) ∧ (k = s.size + 1 → O = wordsL s.data.toList []) ∧ O.length ≤ k

theorem drop_data (s : ByteArray) (k : Nat) (h : k < s.size) : s.data.toList.drop k = s[k] :: s.data.toList.drop (k + 1) := by
  rw [List.drop_eq_getElem_cons (by simpa using h)]; rfl
theorem extract_list (s : ByteArray) (f k : Nat) : s.extract f k = ⟨((s.data.toList.take k).drop f).toArray⟩ := by
  apply ByteArray.ext
  simp [ByteArray.data_extract, ← Array.toList_inj, Array.toList_extract, List.extract_eq_take_drop, List.drop_take]

theorem owns_snoc {s : ByteArray} {f k : Nat} {w : World} {base : Nat} {e : TypeId} {v : Value} {O : List (List UInt8)} (h : w.ownsRow base e 1 v (O.length + 1) (O.map bstr ++ [.string (s.extract f k)])) :
    w.ownsRow base e 1 v (O ++ [(s.data.toList.take k).drop f]).length ((O ++ [(s.data.toList.take k).drop f]).map bstr) := by
  simpa [bstr, extract_list] using h

theorem WRel.hit {s : ByteArray} {k f : Nat} {O : List (List UInt8)} (h : WRel s k f O) (hk : k = s.size ∨ ∃ hh : k < s.size, s[k] = 32) :
    WRel s (k + 1) (k + 1) (O ++ [(s.data.toList.take k).drop f]) := by
  obtain ⟨h1, h2, h3, h4⟩ := h
  refine ⟨Nat.le_refl _, fun h5 => ?_, fun h5 => ?_, by simp; omega⟩
  · rcases hk with hk | ⟨hh, hc⟩
    · omega
    · have := h2 (by omega)
      rw [drop_data s k hh, hc, wordsL_space] at this
      rw [← this]
      simp [List.drop_eq_nil_of_le]
  · have e : k = s.size := by omega
    subst e
    have := h2 (Nat.le_refl _)
    rw [List.drop_eq_nil_of_le (by simp)] at this
    exact this
theorem WRel.miss {s : ByteArray} {k f : Nat} {O : List (List UInt8)} (h : WRel s k f O) (hh : k < s.size) (hc : s[k] ≠ 32) :
    WRel s (k + 1) f O := by
  obtain ⟨h1, h2, h3, h4⟩ := h
  refine ⟨by omega, fun h5 => ?_, fun h5 => by omega, by omega⟩
  have := h2 (by omega)
  rw [drop_data s k hh, wordsL_other _ _ _ hc] at this
  rw [← this, List.take_succ_eq_append_getElem (by simpa using hh), List.drop_append_of_le_length (by simp; omega)]
  rfl

set_option maxHeartbeats 400000 in
theorem words_any (s : ByteArray) (w : World) (hs : s.size ≤ 4096) :
    Calls Tryd.prog 12 #[.string s] w fun e w' => ∃ v, e = .returned v ∧ w'.ownsRow w.heap.size 9 1 v (wordsL s.data.toList []).length ((wordsL s.data.toList []).map bstr) ∧ Below w.heap.size w w' := by
  obtain ⟨i0, hi, hz0, hz1, hz2⟩ := info_parts Tryd.infoStr
  go_enter Tryd.func12, Tryd.ntmps12
  go_wp2
  go_loopw [3, 4, 5] (fun v fr i wr => ∃ (k f : Nat) (O : List (List UInt8)), k ≤ s.size + 1 ∧ i = .int .i64 k ∧ fr = .int .i64 f ∧ WRel s k f O ∧ wr.ownsRow w.heap.size 9 1 v O.length (O.map bstr) ∧ Below w.heap.size w wr) (fun _ _ i _ => s.size + 1 - (intOf i).toNat)
  case atStart => exact ⟨0, 0, [], by omega, rfl, rfl, ⟨Nat.le_refl _, by simp, by simp, by simp⟩, World.ownsRow_made _ _ _ (Nat.le_refl _) (by decide) rfl, (Below.refl _ _).alloc (Nat.le_refl _) _⟩
  case round =>
    obtain ⟨k, f, O, hk, rfl, rfl, hR, hown, hbel⟩ := hrel
    have hfk : f ≤ k := hR.1
    have hOk : O.length ≤ k := hR.2.2.2
    by_cases hks : k ≤ s.size
    · by_cases hke : k = s.size
      · subst hke
        have hL := Lib.hid (WRel.hit hR (Or.inl rfl))
        clear hR
        go_wp2_with (first
          | (at_builtin; refine wpList_append1 rfl _ _ 27 rfl w.heap.size 9 i0 (.string ByteArray.empty) 16 Tryd.underlying27 hi hz0 hz1 hz2 rfl _ _ _ rfl hown (.string (s.extract f s.size)) rfl rfl (by omega) hbel.size ?_))
        intro v' w1 hown1 hbel1 _ _
        have hown2 := owns_snoc (s := s) hown1
        have hbel2 := hbel.trans hbel1
        clear hown hown1 hbel1 hbel
        go_wp2
        go_roundw
        case rel => exact ⟨s.size + 1, s.size + 1, _, Nat.le_refl _, by go_num, by go_num, hL.out, hown2, hbel2⟩
        case measure => simp [intOf]
      · by_cases hc : s[k]'(by omega) = 32
        · have hL := Lib.hid (WRel.hit hR (Or.inr ⟨by omega, hc⟩))
          have hc1 : (((s[k]'(by omega)).toNat : Int) == 32) = true := by rw [hc]; rfl
          have hk1 : ((k : Int) == (s.size : Int)) = false := by simp; omega
          clear hR hc
          go_wp2_with (first
            | (at_builtin; refine wpList_append1 rfl _ _ 27 rfl w.heap.size 9 i0 (.string ByteArray.empty) 16 Tryd.underlying27 hi hz0 hz1 hz2 rfl _ _ _ rfl hown (.string (s.extract f k)) rfl rfl (by omega) hbel.size ?_))
          intro v' w1 hown1 hbel1 _ _
          have hown2 := owns_snoc (s := s) hown1
          have hbel2 := hbel.trans hbel1
          clear hown hown1 hbel1 hbel
          go_wp2
          go_roundw
          case rel => exact ⟨k + 1, k + 1, _, by omega, by go_num, by go_num, hL.out, hown2, hbel2⟩
          case measure => simp [intOf]; omega
        · have hL := Lib.hid (WRel.miss hR (by omega) hc)
          have hk1 : ((k : Int) == (s.size : Int)) = false := by simp; omega
          have hc1 : (((s[k]'(by omega)).toNat : Int) == 32) = false := by
            rw [beq_eq_false_iff_ne]; intro h; apply hc; apply UInt8.toNat_inj.1; show _ = 32; omega
          clear hR hc
          go_wp2
          go_roundw
          case rel => exact ⟨k + 1, f, _, by omega, by go_num, rfl, hL.out, hown, hbel⟩
          case measure => simp [intOf]; omega
    · have hO : O = wordsL s.data.toList [] := hR.2.2.1 (by omega)
      subst hO
      clear hR hOk
      go_wp2
      go_ret
      exact ⟨_, rfl, hown, hbel⟩
end Go.Proofs.YthdjpealdpkggaaDoor
