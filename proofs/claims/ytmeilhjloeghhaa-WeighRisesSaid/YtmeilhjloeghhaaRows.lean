/-
  No cell of these rows narrows 'for every input' (looked for: loops, veiled, ifaces, maps, wideKeys, modest, calm, conditions, laid).
  DERIVED. THE GIVEN ROWS OF THIS SEAT. 7 by the template 'for every input the law returns true; each argument reads behind the call as it read before'; 0 by the template 'total and deterministic' (their statements: YtmeilhjloeghhaaTotals.lean).
  GIVEN WITH THE SEED: the statements are not yours to turn. If you find one false, say at which input.
  Laid BY PROGRAM, IN A SANDBOX (cutbox-rows.mjs): the forced cells as the released guide's own fill.sh prints them over the translation cc519c85ee8e37fb… (all of the seat's roots in one cut). By AI agents, Wed Nov 11 2026. No macro, syntax, notation, axiom, sorry.
-/
import Derived.Test.YtmeilhjloeghhaaChecked
import GoSem.Claim
import GoSem.ClaimJoined
import GoSem.ClaimMapViews
import Derived.JoinedTies
import Derived.KernelRfl
namespace Go.Proofs.Ytmeilhjloeghhaa
/- THE CELL 'sum', in the pinned program and in every row, IS THE sha256 OF THE DUMP (.gsa) THAT YtmeilhjloeghhaaProg.lean LOADS. Nothing in Lean hashes anything: it is a label: what it is worth is what the hold of that sum in a sandbox is worth. -/
noncomputable def Try.pinned : Pinned := { name := "ytmeilhjloeghhaa", sum := "cc519c85ee8e37fb27b6d5ed64e6727d76545a70891d12ae5d3564ecf47cb24c", checked := Try.checked }
namespace Rows
def none {H : Type} : Left H := { results := [], args := [] }

/-- 'coneylaw02.WeighLess': WHATEVER THE INPUT: true; the input reads as it did. -/
def weighLessSpec : ChangeSpec := { name := "weighLess", fn := fun _ => fun
  | [d1, d2] => { results := [.lit (.bool true)], args := [d1, d2] }
  | _ => none }
def weighLessRow : OpenClaim := { program := "ytmeilhjloeghhaa", sum := "cc519c85ee8e37fb27b6d5ed64e6727d76545a70891d12ae5d3564ecf47cb24c", func := "coney/coneylaw02.WeighLess", spec := "weighLess", apart := false }
def WeighLessSaid : Prop := weighLessRow.holds Try.pinned (OpenSpec.ofChange weighLessSpec)

/-- ITS FALSE NEIGHBOUR: 'it returns false'. Refute it at one input. -/
def weighLessWrong : ChangeSpec := { name := "weighLess", fn := fun _ => fun
  | [d1, d2] => { results := [.lit (.bool false)], args := [d1, d2] }
  | _ => none }
def WeighLessWrongFalsely : Prop := weighLessRow.holds Try.pinned (OpenSpec.ofChange weighLessWrong)

/-- 'coneylaw02.WeighWeak': WHATEVER THE INPUT: true; the input reads as it did. -/
def weighWeakSpec : ChangeSpec := { name := "weighWeak", fn := fun _ => fun
  | [d1, d2, d3] => { results := [.lit (.bool true)], args := [d1, d2, d3] }
  | _ => none }
def weighWeakRow : OpenClaim := { program := "ytmeilhjloeghhaa", sum := "cc519c85ee8e37fb27b6d5ed64e6727d76545a70891d12ae5d3564ecf47cb24c", func := "coney/coneylaw02.WeighWeak", spec := "weighWeak", apart := false }
def WeighWeakSaid : Prop := weighWeakRow.holds Try.pinned (OpenSpec.ofChange weighWeakSpec)

/-- ITS FALSE NEIGHBOUR: 'it returns false'. Refute it at one input. -/
def weighWeakWrong : ChangeSpec := { name := "weighWeak", fn := fun _ => fun
  | [d1, d2, d3] => { results := [.lit (.bool false)], args := [d1, d2, d3] }
  | _ => none }
def WeighWeakWrongFalsely : Prop := weighWeakRow.holds Try.pinned (OpenSpec.ofChange weighWeakWrong)

/-- 'coneylaw02.WeighJoined': WHATEVER THE INPUT: true; the input reads as it did. -/
def weighJoinedSpec : ChangeSpec := { name := "weighJoined", fn := fun _ => fun
  | [d1, d2] => { results := [.lit (.bool true)], args := [d1, d2] }
  | _ => none }
def weighJoinedRow : OpenClaim := { program := "ytmeilhjloeghhaa", sum := "cc519c85ee8e37fb27b6d5ed64e6727d76545a70891d12ae5d3564ecf47cb24c", func := "coney/coneylaw02.WeighJoined", spec := "weighJoined", apart := false }
def WeighJoinedSaid : Prop := weighJoinedRow.holds Try.pinned (OpenSpec.ofChange weighJoinedSpec)

/-- ITS FALSE NEIGHBOUR: 'it returns false'. Refute it at one input. -/
def weighJoinedWrong : ChangeSpec := { name := "weighJoined", fn := fun _ => fun
  | [d1, d2] => { results := [.lit (.bool false)], args := [d1, d2] }
  | _ => none }
def WeighJoinedWrongFalsely : Prop := weighJoinedRow.holds Try.pinned (OpenSpec.ofChange weighJoinedWrong)

/-- 'coneylaw02.WeighMean': WHATEVER THE INPUT: true; the input reads as it did. -/
def weighMeanSpec : ChangeSpec := { name := "weighMean", fn := fun _ => fun
  | [d1, d2] => { results := [.lit (.bool true)], args := [d1, d2] }
  | _ => none }
def weighMeanRow : OpenClaim := { program := "ytmeilhjloeghhaa", sum := "cc519c85ee8e37fb27b6d5ed64e6727d76545a70891d12ae5d3564ecf47cb24c", func := "coney/coneylaw02.WeighMean", spec := "weighMean", apart := false }
def WeighMeanSaid : Prop := weighMeanRow.holds Try.pinned (OpenSpec.ofChange weighMeanSpec)

/-- ITS FALSE NEIGHBOUR: 'it returns false'. Refute it at one input. -/
def weighMeanWrong : ChangeSpec := { name := "weighMean", fn := fun _ => fun
  | [d1, d2] => { results := [.lit (.bool false)], args := [d1, d2] }
  | _ => none }
def WeighMeanWrongFalsely : Prop := weighMeanRow.holds Try.pinned (OpenSpec.ofChange weighMeanWrong)

/-- 'coneylaw02.WeighRises': WHATEVER THE INPUT: true; the input reads as it did. -/
def weighRisesSpec : ChangeSpec := { name := "weighRises", fn := fun _ => fun
  | [d] => { results := [.lit (.bool true)], args := [d] }
  | _ => none }
def weighRisesRow : OpenClaim := { program := "ytmeilhjloeghhaa", sum := "cc519c85ee8e37fb27b6d5ed64e6727d76545a70891d12ae5d3564ecf47cb24c", func := "coney/coneylaw02.WeighRises", spec := "weighRises", unfollowed := true, recurses := true, apart := false }
def WeighRisesSaid : Prop := weighRisesRow.holds Try.pinned (OpenSpec.ofChange weighRisesSpec)

/-- ITS FALSE NEIGHBOUR: 'it returns false'. Refute it at one input. -/
def weighRisesWrong : ChangeSpec := { name := "weighRises", fn := fun _ => fun
  | [d] => { results := [.lit (.bool false)], args := [d] }
  | _ => none }
def WeighRisesWrongFalsely : Prop := weighRisesRow.holds Try.pinned (OpenSpec.ofChange weighRisesWrong)

/-- 'coneylaw02.WeighRanks': WHATEVER THE INPUT: true; the input reads as it did. -/
def weighRanksSpec : ChangeSpec := { name := "weighRanks", fn := fun _ => fun
  | [d] => { results := [.lit (.bool true)], args := [d] }
  | _ => none }
def weighRanksRow : OpenClaim := { program := "ytmeilhjloeghhaa", sum := "cc519c85ee8e37fb27b6d5ed64e6727d76545a70891d12ae5d3564ecf47cb24c", func := "coney/coneylaw02.WeighRanks", spec := "weighRanks", unfollowed := true, recurses := true, apart := false }
def WeighRanksSaid : Prop := weighRanksRow.holds Try.pinned (OpenSpec.ofChange weighRanksSpec)

/-- ITS FALSE NEIGHBOUR: 'it returns false'. Refute it at one input. -/
def weighRanksWrong : ChangeSpec := { name := "weighRanks", fn := fun _ => fun
  | [d] => { results := [.lit (.bool false)], args := [d] }
  | _ => none }
def WeighRanksWrongFalsely : Prop := weighRanksRow.holds Try.pinned (OpenSpec.ofChange weighRanksWrong)

/-- 'coneylaw02.WeighOrders': WHATEVER THE INPUT: true; the input reads as it did. -/
def weighOrdersSpec : ChangeSpec := { name := "weighOrders", fn := fun _ => fun
  | [d1, d2] => { results := [.lit (.bool true)], args := [d1, d2] }
  | _ => none }
def weighOrdersRow : OpenClaim := { program := "ytmeilhjloeghhaa", sum := "cc519c85ee8e37fb27b6d5ed64e6727d76545a70891d12ae5d3564ecf47cb24c", func := "coney/coneylaw02.WeighOrders", spec := "weighOrders", unfollowed := true, recurses := true, apart := false }
def WeighOrdersSaid : Prop := weighOrdersRow.holds Try.pinned (OpenSpec.ofChange weighOrdersSpec)

/-- ITS FALSE NEIGHBOUR: 'it returns false'. Refute it at one input. -/
def weighOrdersWrong : ChangeSpec := { name := "weighOrders", fn := fun _ => fun
  | [d1, d2] => { results := [.lit (.bool false)], args := [d1, d2] }
  | _ => none }
def WeighOrdersWrongFalsely : Prop := weighOrdersRow.holds Try.pinned (OpenSpec.ofChange weighOrdersWrong)

/- THE SECOND FORM. 'bulk': how many values and letters a reading holds, each counted each time it is reached (what is shared counts as often as it is met; a slice's spare places count too). A statement '..UptoSaid' is the law's where the arguments, and the package variables that the reading takes, are together of bulk at most 1048576: NARROWER than '..Said'. Prove '..Said' where nothing that the law and all that it calls make is longer than what came in: it says more and counts as full. Else prove '..UptoSaid'. A law counts once. -/
mutual
def uptoBulk {H : Type} : DataW H → Nat
  | .lit (.string bytes) => bytes.length + 1
  | .lit _ => 1
  | .nil => 1
  | .ptr d => uptoBulk d + 1
  | .slice elems spare => uptoBulkAll elems + uptoBulkAll spare + 1
  | .agg parts => uptoBulkAll parts + 1
  | .iface _ d => uptoBulk d + 1
  | .map entries => uptoBulkEntries entries + 1
  | .held _ => 1
def uptoBulkAll {H : Type} : List (DataW H) → Nat
  | [] => 0
  | d :: r => uptoBulk d + uptoBulkAll r
def uptoBulkEntries {H : Type} : List (Lit × DataW H) → Nat
  | [] => 0
  | x :: r => uptoBulkEntry x + uptoBulkEntries r
def uptoBulkEntry {H : Type} : Lit × DataW H → Nat
  | (.string bytes, d) => bytes.length + uptoBulk d + 1
  | (_, d) => uptoBulk d + 1
 end
def uptoSmall : (H : Type) → List (DataW H) → Bool := fun _ ds => decide (uptoBulkAll ds ≤ 1048576)
def OpenSpec.upto (s : _root_.Go.ChangeSpec) : _root_.Go.OpenSpec := { _root_.Go.OpenSpec.ofChange s with cond := some uptoSmall }

/-- 'coneylaw02.WeighLess', WHERE WHAT IT READS IS OF BULK AT MOST 1048576: true; the input reads as it did. -/
def weighLessUptoRow : OpenClaim := { program := "ytmeilhjloeghhaa", sum := "cc519c85ee8e37fb27b6d5ed64e6727d76545a70891d12ae5d3564ecf47cb24c", func := "coney/coneylaw02.WeighLess", spec := "weighLess", apart := false, narrowed := true }
def WeighLessUptoSaid : Prop := weighLessUptoRow.holds Try.pinned (OpenSpec.upto weighLessSpec)

/-- 'coneylaw02.WeighWeak', WHERE WHAT IT READS IS OF BULK AT MOST 1048576: true; the input reads as it did. -/
def weighWeakUptoRow : OpenClaim := { program := "ytmeilhjloeghhaa", sum := "cc519c85ee8e37fb27b6d5ed64e6727d76545a70891d12ae5d3564ecf47cb24c", func := "coney/coneylaw02.WeighWeak", spec := "weighWeak", apart := false, narrowed := true }
def WeighWeakUptoSaid : Prop := weighWeakUptoRow.holds Try.pinned (OpenSpec.upto weighWeakSpec)

/-- 'coneylaw02.WeighJoined', WHERE WHAT IT READS IS OF BULK AT MOST 1048576: true; the input reads as it did. -/
def weighJoinedUptoRow : OpenClaim := { program := "ytmeilhjloeghhaa", sum := "cc519c85ee8e37fb27b6d5ed64e6727d76545a70891d12ae5d3564ecf47cb24c", func := "coney/coneylaw02.WeighJoined", spec := "weighJoined", apart := false, narrowed := true }
def WeighJoinedUptoSaid : Prop := weighJoinedUptoRow.holds Try.pinned (OpenSpec.upto weighJoinedSpec)

/-- 'coneylaw02.WeighMean', WHERE WHAT IT READS IS OF BULK AT MOST 1048576: true; the input reads as it did. -/
def weighMeanUptoRow : OpenClaim := { program := "ytmeilhjloeghhaa", sum := "cc519c85ee8e37fb27b6d5ed64e6727d76545a70891d12ae5d3564ecf47cb24c", func := "coney/coneylaw02.WeighMean", spec := "weighMean", apart := false, narrowed := true }
def WeighMeanUptoSaid : Prop := weighMeanUptoRow.holds Try.pinned (OpenSpec.upto weighMeanSpec)

/-- 'coneylaw02.WeighRises', WHERE WHAT IT READS IS OF BULK AT MOST 1048576: true; the input reads as it did. -/
def weighRisesUptoRow : OpenClaim := { program := "ytmeilhjloeghhaa", sum := "cc519c85ee8e37fb27b6d5ed64e6727d76545a70891d12ae5d3564ecf47cb24c", func := "coney/coneylaw02.WeighRises", spec := "weighRises", unfollowed := true, recurses := true, apart := false, narrowed := true }
def WeighRisesUptoSaid : Prop := weighRisesUptoRow.holds Try.pinned (OpenSpec.upto weighRisesSpec)

/-- 'coneylaw02.WeighRanks', WHERE WHAT IT READS IS OF BULK AT MOST 1048576: true; the input reads as it did. -/
def weighRanksUptoRow : OpenClaim := { program := "ytmeilhjloeghhaa", sum := "cc519c85ee8e37fb27b6d5ed64e6727d76545a70891d12ae5d3564ecf47cb24c", func := "coney/coneylaw02.WeighRanks", spec := "weighRanks", unfollowed := true, recurses := true, apart := false, narrowed := true }
def WeighRanksUptoSaid : Prop := weighRanksUptoRow.holds Try.pinned (OpenSpec.upto weighRanksSpec)

/-- 'coneylaw02.WeighOrders', WHERE WHAT IT READS IS OF BULK AT MOST 1048576: true; the input reads as it did. -/
def weighOrdersUptoRow : OpenClaim := { program := "ytmeilhjloeghhaa", sum := "cc519c85ee8e37fb27b6d5ed64e6727d76545a70891d12ae5d3564ecf47cb24c", func := "coney/coneylaw02.WeighOrders", spec := "weighOrders", unfollowed := true, recurses := true, apart := false, narrowed := true }
def WeighOrdersUptoSaid : Prop := weighOrdersUptoRow.holds Try.pinned (OpenSpec.upto weighOrdersSpec)

end Rows
end Go.Proofs.Ytmeilhjloeghhaa
