/-
  coneyref04.Infix, Prefix, walked.
-/
import Derived.Test.YthdjpealdpkggaaDoorIn
namespace Go.Proofs.YthdjpealdpkggaaDoor
open Go.RowKit

def sevens : ByteArray := ⟨([61, 32, 92, 61, 32, 61, 61, 32, 92, 61, 61, 32, 64, 60, 32, 64, 62, 32, 64, 61, 60, 32, 64, 62, 61, 32, 105, 115, 32, 61, 58, 61, 32, 61, 92, 61, 32, 60, 32, 62, 32, 61, 60, 32, 62, 61, 32, 61, 46, 46, 32, 35, 61, 32, 35, 92, 61, 32, 35, 60, 32, 35, 62, 32, 35, 61, 60, 32, 35, 62, 61, 32, 105, 110] : List UInt8).toArray⟩

/-- the document's infix operator of a name -/
def refInfix (n : ByteArray) : Int × Int × Int × Bool :=
  if inB n ⟨#[58, 45]⟩ = true then (1200, 1199, 1199, true)
  else if inB n ⟨#[59]⟩ = true then (1100, 1099, 1100, true)
  else if inB n ⟨#[45, 62]⟩ = true then (1050, 1049, 1050, true)
  else if inB n ⟨#[44]⟩ = true then (1000, 999, 1000, true)
  else if inB n ⟨#[35, 60, 61, 62]⟩ = true then (760, 759, 759, true)
  else if inB n sevens = true then (700, 699, 699, true)
  else if inB n ⟨#[92, 47]⟩ = true then (550, 550, 549, true)
  else if inB n ⟨#[46, 46]⟩ = true then (450, 449, 449, true)
  else if inB n ⟨#[43, 32, 45]⟩ = true then (500, 500, 499, true)
  else if inB n ⟨#[42, 32, 47, 47, 32, 114, 101, 109, 32, 109, 111, 100, 32, 100, 105, 118]⟩ = true then (400, 400, 399, true)
  else if inB n ⟨#[94]⟩ = true then (200, 199, 200, true)
  else (0, 0, 0, false)
def refPrefix (n : ByteArray) : Int × Int × Bool :=
  if inB n ⟨#[58, 45]⟩ = true then (1200, 1199, true)
  else if inB n ⟨#[92, 43]⟩ = true then (900, 900, true)
  else if inB n ⟨#[43, 32, 45]⟩ = true then (200, 200, true)
  else (0, 0, false)

def tup4 (x : Int × Int × Int × Bool) : Value := .tuple #[.int .i64 x.1, .int .i64 x.2.1, .int .i64 x.2.2.1, .bool x.2.2.2]
def tup3 (x : Int × Int × Bool) : Value := .tuple #[.int .i64 x.1, .int .i64 x.2.1, .bool x.2.2]

set_option maxHeartbeats 800000 in
theorem refPrefix_any (name : ByteArray) (w : World) :
    Calls Tryd.prog 9 #[.string name] w fun e w' => e = .returned (tup3 (refPrefix name)) ∧ Below w.heap.size w w' := by
  have hB := Below.refl w.heap.size w
  go_enter Tryd.func9, Tryd.ntmps9
  go_wp2_with (first | (go_at_call 11; refine (carry (in_any _ _ _ (by decide)) hB).mono ?_; clear hB; rintro e w' ⟨rfl, hB⟩))
  all_goals go_ret3
  all_goals exact ⟨by simp [refPrefix, tup3, *], by assumption⟩

set_option maxHeartbeats 1600000 in
theorem refInfix_any (name : ByteArray) (w : World) :
    Calls Tryd.prog 7 #[.string name] w fun e w' => e = .returned (tup4 (refInfix name)) ∧ Below w.heap.size w w' := by
  have hB := Below.refl w.heap.size w
  go_enter Tryd.func7, Tryd.ntmps7
  go_wp2_with (first | (go_at_call 11; refine (carry (in_any _ _ _ (by decide)) hB).mono ?_; clear hB; rintro e w' ⟨rfl, hB⟩))
  go_ways
  all_goals refine bodyPost_ret (v := tup4 (refInfix name)) (by simp [results, Tryd.results7, go_sem, tup4, refInfix, sevens, *]) rfl ⟨rfl, by assumption⟩
end Go.Proofs.YthdjpealdpkggaaDoor
