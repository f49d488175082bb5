/-
  The plain law: the program's table and the document's words tell the same operators.
-/
import Derived.Test.YthdjpealdpkggaaDoorRef
import Derived.Test.YthdjpealdpkggaaDoorOps
namespace Go.Proofs.YthdjpealdpkggaaDoor
open Go.RowKit

def names : List (List UInt8) := tab.map (·.1)
def inL (l s : List UInt8) : Bool := (wordsL s []).contains l
theorem inB_eq (n : ByteArray) (s : List UInt8) : inB n ⟨s.toArray⟩ = inL n.toList s := rfl

def refInfixL (n : List UInt8) : Int × Int × Int × Bool :=
  if inL n [58, 45] = true then (1200, 1199, 1199, true)
  else if inL n [59] = true then (1100, 1099, 1100, true)
  else if inL n [45, 62] = true then (1050, 1049, 1050, true)
  else if inL n [44] = true then (1000, 999, 1000, true)
  else if inL n [35, 60, 61, 62] = true then (760, 759, 759, true)
  else if inL n sevens.data.toList = true then (700, 699, 699, true)
  else if inL n [92, 47] = true then (550, 550, 549, true)
  else if inL n [46, 46] = true then (450, 449, 449, true)
  else if inL n [43, 32, 45] = true then (500, 500, 499, true)
  else if inL n [42, 32, 47, 47, 32, 114, 101, 109, 32, 109, 111, 100, 32, 100, 105, 118] = true then (400, 400, 399, true)
  else if inL n [94] = true then (200, 199, 200, true)
  else (0, 0, 0, false)
def refPrefixL (n : List UInt8) : Int × Int × Bool :=
  if inL n [58, 45] = true then (1200, 1199, true)
  else if inL n [92, 43] = true then (900, 900, true)
  else if inL n [43, 32, 45] = true then (200, 200, true)
  else (0, 0, false)
def infixOfL (n : List UInt8) : Int × Int × Int × Bool :=
  match findRow 3 n with
  | some r => (r.2.2, sideI (r.2.1.getD 0 0) r.2.2, sideI (r.2.1.getD 2 0) r.2.2, true)
  | none => (0, 0, 0, false)
def prefixOfL (n : List UInt8) : Int × Int × Bool :=
  match findRow 2 n with
  | some r => (r.2.2, sideI (r.2.1.getD 1 0) r.2.2, true)
  | none => (0, 0, false)

theorem in_all : names.all (fun l => decide (infixOfL l = refInfixL l) && decide (prefixOfL l = refPrefixL l)) = true := by decide +kernel
theorem sub_names : [[58, 45], [59], [45, 62], [44], [35, 60, 61, 62], sevens.data.toList, [92, 47], [46, 46], [43, 32, 45], [42, 32, 47, 47, 32, 114, 101, 109, 32, 109, 111, 100, 32, 100, 105, 118], [94], [92, 43]].all (fun s => (wordsL s []).all (fun x => names.contains x)) = true := by decide +kernel
theorem inL_out {l s : List UInt8} (h : ¬ names.contains l = true) (hs : (wordsL s []).all (fun x => names.contains x) = true) : inL l s = false := by
  cases e : inL l s
  · rfl
  · exact absurd (List.all_eq_true.1 hs l (by simpa [inL] using e)) h
theorem find_out {k : Nat} {l : List UInt8} (h : ¬ names.contains l = true) : findRow k l = none := by
  rw [findRow, List.find?_eq_none]
  intro r hr hc
  simp only [rowIs, Bool.and_eq_true, beq_iff_eq] at hc
  apply h
  rw [List.contains_iff_mem, ← hc.1]
  exact List.mem_map_of_mem hr
theorem plainL (l : List UInt8) : infixOfL l = refInfixL l ∧ prefixOfL l = refPrefixL l := by
  by_cases h : names.contains l = true
  · have := List.all_eq_true.1 in_all l (by simpa using h)
    simpa using this
  · have hf3 := find_out (k := 3) h
    have hf2 := find_out (k := 2) h
    have hs := sub_names
    simp only [List.all_cons, List.all_nil, Bool.and_true, Bool.and_eq_true] at hs
    obtain ⟨h1, h2, h3, h4, h5, h6, h7, h8, h9, h10, h11, h12⟩ := hs
    constructor
    · simp [infixOfL, hf3, refInfixL, inL_out h h1, inL_out h h2, inL_out h h3, inL_out h h4, inL_out h h5, inL_out h h6, inL_out h h7, inL_out h h8, inL_out h h9, inL_out h h10, inL_out h h11]
    · simp [prefixOfL, hf2, refPrefixL, inL_out h h1, inL_out h h12, inL_out h h9]

theorem infix_plain (n : ByteArray) : infixOf n = refInfix n := (plainL n.toList).1
theorem prefix_plain (n : ByteArray) : prefixOf n = refPrefix n := (plainL n.toList).2

def SidesOk (x : Int × Int × Int × Bool) : Prop := (x.2.2.2 = false → x.1 = 0 ∧ x.2.1 = 0 ∧ x.2.2.1 = 0) ∧ (x.2.2.2 = true → 200 ≤ x.1 ∧ x.1 ≤ 1200 ∧ x.2.1 ≤ x.1 ∧ x.2.2.1 ≤ x.1 ∧ x.1 - 1 ≤ x.2.1 ∧ x.1 - 1 ≤ x.2.2.1 ∧ x.2.1 + x.2.2.1 < 2 * x.1)
theorem sides_ite {c : Prop} [Decidable c] {a b : Int × Int × Int × Bool} (ha : SidesOk a) (hb : SidesOk b) : SidesOk (if c then a else b) := by
  by_cases h : c <;> simp [h, ha, hb]
theorem sidesOk_of (n : ByteArray) : SidesOk (refInfix n) := by
  unfold refInfix
  repeat (refine sides_ite (by simp [SidesOk]) ?_)
  simp [SidesOk]
/-- what OpsSides asks -/
theorem sides_plain (n : ByteArray) (p l r : Int) (is : Bool) (h : refInfix n = (p, l, r, is)) :
    (is = false → p = 0 ∧ l = 0 ∧ r = 0) ∧ (is = true → 200 ≤ p ∧ p ≤ 1200 ∧ l ≤ p ∧ r ≤ p ∧ p - 1 ≤ l ∧ p - 1 ≤ r ∧ l + r < 2 * p) := by
  have := sidesOk_of n
  rw [h] at this
  exact this

theorem TabW.pos {w : World} (h : TabW w) : 0 < w.heap.size :=
  World.block_lt_of_cell? w ⟨0, 0, none⟩ (h 0 _ rfl).1
theorem TabW.below {w w' : World} (h : TabW w) (hb : Below w.heap.size w w') : TabW w' := by
  have hp := h.pos
  intro k r hr
  obtain ⟨a, b, c⟩ := h k r hr
  exact ⟨(hb.cell (p := ⟨0, _, none⟩) hp).trans a, (hb.cell (p := ⟨0, _, none⟩) hp).trans b, (hb.cell (p := ⟨0, _, none⟩) hp).trans c⟩

theorem below_draws {w w' : World} (h : ∃ q, w' = w.drewN q) : Below w.heap.size w w' := by
  obtain ⟨q, rfl⟩ := h
  exact below_drewN (Below.refl _ _) q

theorem infix_c (n : ByteArray) (w : World) (hT : TabW w) (p l r : Int) (is : Bool) (h : refInfix n = (p, l, r, is)) :
    Calls Tryd.prog 6 #[.string n] w fun e w' => e = .returned (.tuple #[.int .i64 p, .int .i64 l, .int .i64 r, .bool is]) ∧ Below w.heap.size w w' :=
  (infix_any n w hT).mono fun _ _ ⟨q, he, hw⟩ => ⟨by rw [he, infix_plain, h]; rfl, below_draws ⟨q, hw⟩⟩
theorem refInfix_c (n : ByteArray) (w : World) (p l r : Int) (is : Bool) (h : refInfix n = (p, l, r, is)) :
    Calls Tryd.prog 7 #[.string n] w fun e w' => e = .returned (.tuple #[.int .i64 p, .int .i64 l, .int .i64 r, .bool is]) ∧ Below w.heap.size w w' :=
  (refInfix_any n w).mono fun _ _ ⟨he, hw⟩ => ⟨by rw [he, h]; rfl, hw⟩
theorem prefix_c (n : ByteArray) (w : World) (hT : TabW w) (p l : Int) (is : Bool) (h : refPrefix n = (p, l, is)) :
    Calls Tryd.prog 8 #[.string n] w fun e w' => e = .returned (.tuple #[.int .i64 p, .int .i64 l, .bool is]) ∧ Below w.heap.size w w' :=
  (prefix_any n w hT).mono fun _ _ ⟨q, he, hw⟩ => ⟨by rw [he, prefix_plain, h]; rfl, below_draws ⟨q, hw⟩⟩
theorem refPrefix_c (n : ByteArray) (w : World) (p l : Int) (is : Bool) (h : refPrefix n = (p, l, is)) :
    Calls Tryd.prog 9 #[.string n] w fun e w' => e = .returned (.tuple #[.int .i64 p, .int .i64 l, .bool is]) ∧ Below w.heap.size w w' :=
  (refPrefix_any n w).mono fun _ _ ⟨he, hw⟩ => ⟨by rw [he, h]; rfl, hw⟩
end Go.Proofs.YthdjpealdpkggaaDoor
