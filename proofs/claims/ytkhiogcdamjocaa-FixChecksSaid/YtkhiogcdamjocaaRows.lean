/-
  No cell of these rows narrows 'for every input' (looked for: loops, veiled, ifaces, maps, wideKeys, modest, calm, conditions, laid).
  DERIVED. THE GIVEN ROWS OF THIS SEAT. 4 by the template 'for every input the law returns true; each argument reads behind the call as it read before'; 0 by the template 'total and deterministic' (their statements: YtkhiogcdamjocaaTotals.lean).
  GIVEN WITH THE SEED: the statements are not yours to turn. If you find one false, say at which input.
  Laid BY PROGRAM, IN A SANDBOX (cutbox-rows.mjs): the forced cells as the released guide's own fill.sh prints them over the translation 258e8ec1c51990cf… (all of the seat's roots in one cut). By AI agents, Wed Nov 11 2026. No macro, syntax, notation, axiom, sorry.
-/
import Derived.Test.YtkhiogcdamjocaaChecked
import GoSem.Claim
import GoSem.ClaimJoined
import GoSem.ClaimMapViews
import Derived.JoinedTies
import Derived.KernelRfl
namespace Go.Proofs.Ytkhiogcdamjocaa
/- THE CELL 'sum', in the pinned program and in every row, IS THE sha256 OF THE DUMP (.gsa) THAT YtkhiogcdamjocaaProg.lean LOADS. Nothing in Lean hashes anything: it is a label: what it is worth is what the hold of that sum in a sandbox is worth. -/
noncomputable def Try.pinned : Pinned := { name := "ytkhiogcdamjocaa", sum := "258e8ec1c51990cf7b3f6a31abdb438b6d033ff4aa19342e08dc235abd98c7a0", checked := Try.checked }
namespace Rows
def none {H : Type} : Left H := { results := [], args := [] }

/-- 'coneylaw16.RelChecks': WHATEVER THE INPUT: true; the input reads as it did. -/
def relChecksSpec : ChangeSpec := { name := "relChecks", fn := fun _ => fun
  | [d1, d2] => { results := [.lit (.bool true)], args := [d1, d2] }
  | _ => none }
def relChecksRow : OpenClaim := { program := "ytkhiogcdamjocaa", sum := "258e8ec1c51990cf7b3f6a31abdb438b6d033ff4aa19342e08dc235abd98c7a0", func := "coney/coneylaw16.RelChecks", spec := "relChecks", unfollowed := true, recurses := true, apart := false }
def RelChecksSaid : Prop := relChecksRow.holds Try.pinned (OpenSpec.ofChange relChecksSpec)

/-- ITS FALSE NEIGHBOUR: 'it returns false'. Refute it at one input. -/
def relChecksWrong : ChangeSpec := { name := "relChecks", fn := fun _ => fun
  | [d1, d2] => { results := [.lit (.bool false)], args := [d1, d2] }
  | _ => none }
def RelChecksWrongFalsely : Prop := relChecksRow.holds Try.pinned (OpenSpec.ofChange relChecksWrong)

/-- 'coneylaw17.FixChecks': WHATEVER THE INPUT: true; the input reads as it did. -/
def fixChecksSpec : ChangeSpec := { name := "fixChecks", fn := fun _ => fun
  | [d1, d2] => { results := [.lit (.bool true)], args := [d1, d2] }
  | _ => none }
def fixChecksRow : OpenClaim := { program := "ytkhiogcdamjocaa", sum := "258e8ec1c51990cf7b3f6a31abdb438b6d033ff4aa19342e08dc235abd98c7a0", func := "coney/coneylaw17.FixChecks", spec := "fixChecks", unfollowed := true, recurses := true, apart := false }
def FixChecksSaid : Prop := fixChecksRow.holds Try.pinned (OpenSpec.ofChange fixChecksSpec)

/-- ITS FALSE NEIGHBOUR: 'it returns false'. Refute it at one input. -/
def fixChecksWrong : ChangeSpec := { name := "fixChecks", fn := fun _ => fun
  | [d1, d2] => { results := [.lit (.bool false)], args := [d1, d2] }
  | _ => none }
def FixChecksWrongFalsely : Prop := fixChecksRow.holds Try.pinned (OpenSpec.ofChange fixChecksWrong)

/-- 'coneylaw12.IndexFacts': WHATEVER THE INPUT: true; the input reads as it did. -/
def indexFactsSpec : ChangeSpec := { name := "indexFacts", fn := fun _ => fun
  | [d1, d2, d3] => { results := [.lit (.bool true)], args := [d1, d2, d3] }
  | _ => none }
def indexFactsRow : OpenClaim := { program := "ytkhiogcdamjocaa", sum := "258e8ec1c51990cf7b3f6a31abdb438b6d033ff4aa19342e08dc235abd98c7a0", func := "coney/coneylaw12.IndexFacts", spec := "indexFacts", unfollowed := true, recurses := true, apart := false }
def IndexFactsSaid : Prop := indexFactsRow.holds Try.pinned (OpenSpec.ofChange indexFactsSpec)

/-- ITS FALSE NEIGHBOUR: 'it returns false'. Refute it at one input. -/
def indexFactsWrong : ChangeSpec := { name := "indexFacts", fn := fun _ => fun
  | [d1, d2, d3] => { results := [.lit (.bool false)], args := [d1, d2, d3] }
  | _ => none }
def IndexFactsWrongFalsely : Prop := indexFactsRow.holds Try.pinned (OpenSpec.ofChange indexFactsWrong)

/-- 'coneylaw19.LabelChooses': WHATEVER THE INPUT: true; the input reads as it did. -/
def labelChoosesSpec : ChangeSpec := { name := "labelChooses", fn := fun _ => fun
  | [d1, d2, d3] => { results := [.lit (.bool true)], args := [d1, d2, d3] }
  | _ => none }
def labelChoosesRow : OpenClaim := { program := "ytkhiogcdamjocaa", sum := "258e8ec1c51990cf7b3f6a31abdb438b6d033ff4aa19342e08dc235abd98c7a0", func := "coney/coneylaw19.LabelChooses", spec := "labelChooses", unfollowed := true, recurses := true, apart := false }
def LabelChoosesSaid : Prop := labelChoosesRow.holds Try.pinned (OpenSpec.ofChange labelChoosesSpec)

/-- ITS FALSE NEIGHBOUR: 'it returns false'. Refute it at one input. -/
def labelChoosesWrong : ChangeSpec := { name := "labelChooses", fn := fun _ => fun
  | [d1, d2, d3] => { results := [.lit (.bool false)], args := [d1, d2, d3] }
  | _ => none }
def LabelChoosesWrongFalsely : Prop := labelChoosesRow.holds Try.pinned (OpenSpec.ofChange labelChoosesWrong)

/- THE SECOND FORM. 'bulk': how many values and letters a reading holds, each counted each time it is reached (what is shared counts as often as it is met; a slice's spare places count too). A statement '..UptoSaid' is the law's where the arguments, and the package variables that the reading takes, are together of bulk at most 1048576: NARROWER than '..Said'. Prove '..Said' where nothing that the law and all that it calls make is longer than what came in: it says more and counts as full. Else prove '..UptoSaid'. A law counts once. -/
mutual
def uptoBulk {H : Type} : DataW H → Nat
  | .lit (.string bytes) => bytes.length + 1
  | .lit _ => 1
  | .nil => 1
  | .ptr d => uptoBulk d + 1
  | .slice elems spare => uptoBulkAll elems + uptoBulkAll spare + 1
  | .agg parts => uptoBulkAll parts + 1
  | .iface _ d => uptoBulk d + 1
  | .map entries => uptoBulkEntries entries + 1
  | .held _ => 1
def uptoBulkAll {H : Type} : List (DataW H) → Nat
  | [] => 0
  | d :: r => uptoBulk d + uptoBulkAll r
def uptoBulkEntries {H : Type} : List (Lit × DataW H) → Nat
  | [] => 0
  | x :: r => uptoBulkEntry x + uptoBulkEntries r
def uptoBulkEntry {H : Type} : Lit × DataW H → Nat
  | (.string bytes, d) => bytes.length + uptoBulk d + 1
  | (_, d) => uptoBulk d + 1
 end
def uptoSmall : (H : Type) → List (DataW H) → Bool := fun _ ds => decide (uptoBulkAll ds ≤ 1048576)
def OpenSpec.upto (s : _root_.Go.ChangeSpec) : _root_.Go.OpenSpec := { _root_.Go.OpenSpec.ofChange s with cond := some uptoSmall }

/-- 'coneylaw16.RelChecks', WHERE WHAT IT READS IS OF BULK AT MOST 1048576: true; the input reads as it did. -/
def relChecksUptoRow : OpenClaim := { program := "ytkhiogcdamjocaa", sum := "258e8ec1c51990cf7b3f6a31abdb438b6d033ff4aa19342e08dc235abd98c7a0", func := "coney/coneylaw16.RelChecks", spec := "relChecks", unfollowed := true, recurses := true, apart := false, narrowed := true }
def RelChecksUptoSaid : Prop := relChecksUptoRow.holds Try.pinned (OpenSpec.upto relChecksSpec)

/-- 'coneylaw17.FixChecks', WHERE WHAT IT READS IS OF BULK AT MOST 1048576: true; the input reads as it did. -/
def fixChecksUptoRow : OpenClaim := { program := "ytkhiogcdamjocaa", sum := "258e8ec1c51990cf7b3f6a31abdb438b6d033ff4aa19342e08dc235abd98c7a0", func := "coney/coneylaw17.FixChecks", spec := "fixChecks", unfollowed := true, recurses := true, apart := false, narrowed := true }
def FixChecksUptoSaid : Prop := fixChecksUptoRow.holds Try.pinned (OpenSpec.upto fixChecksSpec)

/-- 'coneylaw12.IndexFacts', WHERE WHAT IT READS IS OF BULK AT MOST 1048576: true; the input reads as it did. -/
def indexFactsUptoRow : OpenClaim := { program := "ytkhiogcdamjocaa", sum := "258e8ec1c51990cf7b3f6a31abdb438b6d033ff4aa19342e08dc235abd98c7a0", func := "coney/coneylaw12.IndexFacts", spec := "indexFacts", unfollowed := true, recurses := true, apart := false, narrowed := true }
def IndexFactsUptoSaid : Prop := indexFactsUptoRow.holds Try.pinned (OpenSpec.upto indexFactsSpec)

/-- 'coneylaw19.LabelChooses', WHERE WHAT IT READS IS OF BULK AT MOST 1048576: true; the input reads as it did. -/
def labelChoosesUptoRow : OpenClaim := { program := "ytkhiogcdamjocaa", sum := "258e8ec1c51990cf7b3f6a31abdb438b6d033ff4aa19342e08dc235abd98c7a0", func := "coney/coneylaw19.LabelChooses", spec := "labelChooses", unfollowed := true, recurses := true, apart := false, narrowed := true }
def LabelChoosesUptoSaid : Prop := labelChoosesUptoRow.holds Try.pinned (OpenSpec.upto labelChoosesSpec)

end Rows
end Go.Proofs.Ytkhiogcdamjocaa
