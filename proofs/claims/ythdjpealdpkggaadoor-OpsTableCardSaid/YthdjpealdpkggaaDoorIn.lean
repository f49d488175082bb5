/-
  coneyref04.in, Infix, Prefix, walked.
-/
import Derived.Test.YthdjpealdpkggaaDoorWords
namespace Go.Proofs.YthdjpealdpkggaaDoor
open Go.RowKit

def inB (name s : ByteArray) : Bool := (wordsL s.data.toList []).contains name.toList

theorem wordsL_pos (l : List UInt8) : ∀ acc, 0 < (wordsL l acc).length := by
  induction l with
  | nil => intro acc; simp [wordsL]
  | cons c r ih => intro acc; unfold wordsL; split <;> simp [ih]

theorem wordsL_len (l : List UInt8) : ∀ acc, (wordsL l acc).length ≤ l.length + 1 := by
  induction l with
  | nil => intro acc; simp [wordsL]
  | cons c r ih => intro acc; unfold wordsL; split <;> simp [ih] <;> (have := ih (acc ++ [c]); omega)

theorem take_contains {α : Type} [BEq α] [LawfulBEq α] (L : List α) (x : α) (k : Nat) (h : k < L.length) : (L.take (k + 1)).contains x = ((L.take k).contains x || L[k] == x) := by
  rw [List.take_succ_eq_append_getElem h, List.contains_eq_any_beq, List.any_append, List.contains_eq_any_beq]
  congr 1
  simp only [List.any_cons, List.any_nil, Bool.or_false]
  exact BEq.comm
theorem contains_of_take {α : Type} [BEq α] [LawfulBEq α] (L : List α) (x : α) (k : Nat) (h : k < L.length) (he : (L[k] == x) = true) : L.contains x = true := by
  rw [List.contains_iff_mem, ← eq_of_beq he]; exact List.getElem_mem h

set_option maxHeartbeats 400000 in
theorem in_any (name s : ByteArray) (w : World) (hs : s.size ≤ 4096) :
    Calls Tryd.prog 11 #[.string name, .string s] w fun e w' => e = .returned (.bool (inB name s)) ∧ Below w.heap.size w w' := by
  go_enter Tryd.func11, Tryd.ntmps11
  go_wp2_with (first | (go_at_call 12; refine (words_any _ _ hs).mono ?_))
  rintro e w1 ⟨v, rfl, hown, hbel⟩
  go_wp2
  obtain ⟨L, hL⟩ : ∃ L, L = wordsL s.data.toList [] := ⟨_, rfl⟩
  have hlen : L.length ≤ 4097 := by rw [hL]; have := wordsL_len s.data.toList []; simp at this; omega
  rw [← hL] at hown
  obtain ⟨g, cap, rfl, hg, hcell⟩ := owns_pos hown (by rw [hL]; exact wordsL_pos _ _)
  have HL : Hid (inB name s = L.contains name.toList) := by show _ = _; rw [hL]; rfl
  clear hL hown
  go_loop [6] (fun i => ∃ k : Nat, k ≤ L.length ∧ i = .int .i64 k ∧ (L.take k).contains name.toList = false) (fun i => L.length - (intOf i).toNat)
  case atStart => exact ⟨0, by omega, rfl, by simp⟩
  case round =>
    obtain ⟨k, hk, rfl, hnot⟩ := hrel
    have HN := Lib.hid hnot
    clear hnot
    by_cases hlt : k < L.length
    · have hc : w1.cell? ⟨g, k, none⟩ = some (.string ⟨L[k].toArray⟩) := by rw [hcell k (by simpa using hlt)]; simp [bstr, hlt]
      clear hcell
      cases he : (L[k] == name.toList)
      · go_wp2
        go_round
        case rel => exact ⟨k + 1, by omega, by go_num, by rw [take_contains _ _ _ hlt, HN.out, he]; rfl⟩
        case measure => simp [intOf]; omega
      · have HC := Lib.hid (contains_of_take L _ k hlt he)
        go_wp2
        go_ret
        exact ⟨ret_bool (by rw [HL.out, HC.out]), hbel⟩
    · have HC : Hid (L.contains name.toList = false) := by have := HN.out; rwa [List.take_of_length_le (by omega)] at this
      clear hcell
      go_wp2
      go_ret
      exact ⟨ret_bool (by rw [HL.out, HC.out]), hbel⟩
end Go.Proofs.YthdjpealdpkggaaDoor
