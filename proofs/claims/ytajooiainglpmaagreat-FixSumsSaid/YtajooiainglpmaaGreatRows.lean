/-
  No cell of these rows narrows 'for every input' (looked for: loops, veiled, ifaces, maps, wideKeys, modest, calm, conditions, laid).
  DERIVED. THE GIVEN ROWS OF THIS SEAT. 7 by the template 'for every input the law returns true; each argument reads behind the call as it read before'; 0 by the template 'total and deterministic' (their statements: YtajooiainglpmaaGreatTotals.lean).
  GIVEN WITH THE SEED: the statements are not yours to turn. If you find one false, say at which input.
  Laid BY PROGRAM, IN A SANDBOX (cutbox-rows.mjs): the forced cells as the released guide's own fill.sh prints them over the translation af7e61d3a8425469… (all of the seat's roots in one cut). By AI agents, Wed Nov 11 2026. No macro, syntax, notation, axiom, sorry.
-/
import Derived.Test.YtajooiainglpmaaGreatChecked
import GoSem.Claim
import GoSem.ClaimJoined
import GoSem.ClaimMapViews
import Derived.JoinedTies
import Derived.KernelRfl
namespace Go.Proofs.YtajooiainglpmaaGreat
/- THE CELL 'sum', in the pinned program and in every row, IS THE sha256 OF THE DUMP (.gsa) THAT YtajooiainglpmaaGreatProg.lean LOADS. Nothing in Lean hashes anything: it is a label: what it is worth is what the hold of that sum in a sandbox is worth. -/
noncomputable def Tryz.pinned : Pinned := { name := "ytajooiainglpmaagreat", sum := "af7e61d3a8425469e34c1eb5792b74d5aac76e85606613acb9d190715acd5cf3", checked := Tryz.checked }
namespace Rows
def none {H : Type} : Left H := { results := [], args := [] }

/-- 'coneylaw16.RelTimes': WHATEVER THE INPUT: true; the input reads as it did. -/
def relTimesSpec : ChangeSpec := { name := "relTimes", fn := fun _ => fun
  | [d1, d2, d3, d4] => { results := [.lit (.bool true)], args := [d1, d2, d3, d4] }
  | _ => none }
def relTimesRow : OpenClaim := { program := "ytajooiainglpmaagreat", sum := "af7e61d3a8425469e34c1eb5792b74d5aac76e85606613acb9d190715acd5cf3", func := "coney/coneylaw16.RelTimes", spec := "relTimes", unfollowed := true, recurses := true, apart := false }
def RelTimesSaid : Prop := relTimesRow.holds Tryz.pinned (OpenSpec.ofChange relTimesSpec)

/-- ITS FALSE NEIGHBOUR: 'it returns false'. Refute it at one input. -/
def relTimesWrong : ChangeSpec := { name := "relTimes", fn := fun _ => fun
  | [d1, d2, d3, d4] => { results := [.lit (.bool false)], args := [d1, d2, d3, d4] }
  | _ => none }
def RelTimesWrongFalsely : Prop := relTimesRow.holds Tryz.pinned (OpenSpec.ofChange relTimesWrong)

/-- 'coneylaw16.RelLess': WHATEVER THE INPUT: true; the input reads as it did. -/
def relLessSpec : ChangeSpec := { name := "relLess", fn := fun _ => fun
  | [d1, d2, d3] => { results := [.lit (.bool true)], args := [d1, d2, d3] }
  | _ => none }
def relLessRow : OpenClaim := { program := "ytajooiainglpmaagreat", sum := "af7e61d3a8425469e34c1eb5792b74d5aac76e85606613acb9d190715acd5cf3", func := "coney/coneylaw16.RelLess", spec := "relLess", unfollowed := true, recurses := true, apart := false }
def RelLessSaid : Prop := relLessRow.holds Tryz.pinned (OpenSpec.ofChange relLessSpec)

/-- ITS FALSE NEIGHBOUR: 'it returns false'. Refute it at one input. -/
def relLessWrong : ChangeSpec := { name := "relLess", fn := fun _ => fun
  | [d1, d2, d3] => { results := [.lit (.bool false)], args := [d1, d2, d3] }
  | _ => none }
def RelLessWrongFalsely : Prop := relLessRow.holds Tryz.pinned (OpenSpec.ofChange relLessWrong)

/-- 'coneylaw17.FixSums': WHATEVER THE INPUT: true; the input reads as it did. -/
def fixSumsSpec : ChangeSpec := { name := "fixSums", fn := fun _ => fun
  | [d1, d2] => { results := [.lit (.bool true)], args := [d1, d2] }
  | _ => none }
def fixSumsRow : OpenClaim := { program := "ytajooiainglpmaagreat", sum := "af7e61d3a8425469e34c1eb5792b74d5aac76e85606613acb9d190715acd5cf3", func := "coney/coneylaw17.FixSums", spec := "fixSums", unfollowed := true, recurses := true, apart := false }
def FixSumsSaid : Prop := fixSumsRow.holds Tryz.pinned (OpenSpec.ofChange fixSumsSpec)

/-- ITS FALSE NEIGHBOUR: 'it returns false'. Refute it at one input. -/
def fixSumsWrong : ChangeSpec := { name := "fixSums", fn := fun _ => fun
  | [d1, d2] => { results := [.lit (.bool false)], args := [d1, d2] }
  | _ => none }
def FixSumsWrongFalsely : Prop := fixSumsRow.holds Tryz.pinned (OpenSpec.ofChange fixSumsWrong)

/-- 'coneylaw17.FixComes': WHATEVER THE INPUT: true; the input reads as it did. -/
def fixComesSpec : ChangeSpec := { name := "fixComes", fn := fun _ => fun
  | [d1, d2] => { results := [.lit (.bool true)], args := [d1, d2] }
  | _ => none }
def fixComesRow : OpenClaim := { program := "ytajooiainglpmaagreat", sum := "af7e61d3a8425469e34c1eb5792b74d5aac76e85606613acb9d190715acd5cf3", func := "coney/coneylaw17.FixComes", spec := "fixComes", unfollowed := true, recurses := true, apart := false }
def FixComesSaid : Prop := fixComesRow.holds Tryz.pinned (OpenSpec.ofChange fixComesSpec)

/-- ITS FALSE NEIGHBOUR: 'it returns false'. Refute it at one input. -/
def fixComesWrong : ChangeSpec := { name := "fixComes", fn := fun _ => fun
  | [d1, d2] => { results := [.lit (.bool false)], args := [d1, d2] }
  | _ => none }
def FixComesWrongFalsely : Prop := fixComesRow.holds Tryz.pinned (OpenSpec.ofChange fixComesWrong)

/-- 'coneylaw17.FixOrder': WHATEVER THE INPUT: true; the input reads as it did. -/
def fixOrderSpec : ChangeSpec := { name := "fixOrder", fn := fun _ => fun
  | [d1, d2, d3] => { results := [.lit (.bool true)], args := [d1, d2, d3] }
  | _ => none }
def fixOrderRow : OpenClaim := { program := "ytajooiainglpmaagreat", sum := "af7e61d3a8425469e34c1eb5792b74d5aac76e85606613acb9d190715acd5cf3", func := "coney/coneylaw17.FixOrder", spec := "fixOrder", unfollowed := true, recurses := true, apart := false }
def FixOrderSaid : Prop := fixOrderRow.holds Tryz.pinned (OpenSpec.ofChange fixOrderSpec)

/-- ITS FALSE NEIGHBOUR: 'it returns false'. Refute it at one input. -/
def fixOrderWrong : ChangeSpec := { name := "fixOrder", fn := fun _ => fun
  | [d1, d2, d3] => { results := [.lit (.bool false)], args := [d1, d2, d3] }
  | _ => none }
def FixOrderWrongFalsely : Prop := fixOrderRow.holds Tryz.pinned (OpenSpec.ofChange fixOrderWrong)

/-- 'coneylaw17.FixKeeps': WHATEVER THE INPUT: true; the input reads as it did. -/
def fixKeepsSpec : ChangeSpec := { name := "fixKeeps", fn := fun _ => fun
  | [d1, d2, d3] => { results := [.lit (.bool true)], args := [d1, d2, d3] }
  | _ => none }
def fixKeepsRow : OpenClaim := { program := "ytajooiainglpmaagreat", sum := "af7e61d3a8425469e34c1eb5792b74d5aac76e85606613acb9d190715acd5cf3", func := "coney/coneylaw17.FixKeeps", spec := "fixKeeps", unfollowed := true, recurses := true, apart := false }
def FixKeepsSaid : Prop := fixKeepsRow.holds Tryz.pinned (OpenSpec.ofChange fixKeepsSpec)

/-- ITS FALSE NEIGHBOUR: 'it returns false'. Refute it at one input. -/
def fixKeepsWrong : ChangeSpec := { name := "fixKeeps", fn := fun _ => fun
  | [d1, d2, d3] => { results := [.lit (.bool false)], args := [d1, d2, d3] }
  | _ => none }
def FixKeepsWrongFalsely : Prop := fixKeepsRow.holds Tryz.pinned (OpenSpec.ofChange fixKeepsWrong)

/-- 'coneylaw17.FixFixed': WHATEVER THE INPUT: true; the input reads as it did. -/
def fixFixedSpec : ChangeSpec := { name := "fixFixed", fn := fun _ => fun
  | [d1, d2] => { results := [.lit (.bool true)], args := [d1, d2] }
  | _ => none }
def fixFixedRow : OpenClaim := { program := "ytajooiainglpmaagreat", sum := "af7e61d3a8425469e34c1eb5792b74d5aac76e85606613acb9d190715acd5cf3", func := "coney/coneylaw17.FixFixed", spec := "fixFixed", unfollowed := true, recurses := true, apart := false }
def FixFixedSaid : Prop := fixFixedRow.holds Tryz.pinned (OpenSpec.ofChange fixFixedSpec)

/-- ITS FALSE NEIGHBOUR: 'it returns false'. Refute it at one input. -/
def fixFixedWrong : ChangeSpec := { name := "fixFixed", fn := fun _ => fun
  | [d1, d2] => { results := [.lit (.bool false)], args := [d1, d2] }
  | _ => none }
def FixFixedWrongFalsely : Prop := fixFixedRow.holds Tryz.pinned (OpenSpec.ofChange fixFixedWrong)

/- THE SECOND FORM. 'bulk': how many values and letters a reading holds, each counted each time it is reached (what is shared counts as often as it is met; a slice's spare places count too). A statement '..UptoSaid' is the law's where the arguments, and the package variables that the reading takes, are together of bulk at most 1048576: NARROWER than '..Said'. Prove '..Said' where nothing that the law and all that it calls make is longer than what came in: it says more and counts as full. Else prove '..UptoSaid'. A law counts once. -/
mutual
def uptoBulk {H : Type} : DataW H → Nat
  | .lit (.string bytes) => bytes.length + 1
  | .lit _ => 1
  | .nil => 1
  | .ptr d => uptoBulk d + 1
  | .slice elems spare => uptoBulkAll elems + uptoBulkAll spare + 1
  | .agg parts => uptoBulkAll parts + 1
  | .iface _ d => uptoBulk d + 1
  | .map entries => uptoBulkEntries entries + 1
  | .held _ => 1
def uptoBulkAll {H : Type} : List (DataW H) → Nat
  | [] => 0
  | d :: r => uptoBulk d + uptoBulkAll r
def uptoBulkEntries {H : Type} : List (Lit × DataW H) → Nat
  | [] => 0
  | x :: r => uptoBulkEntry x + uptoBulkEntries r
def uptoBulkEntry {H : Type} : Lit × DataW H → Nat
  | (.string bytes, d) => bytes.length + uptoBulk d + 1
  | (_, d) => uptoBulk d + 1
 end
def uptoSmall : (H : Type) → List (DataW H) → Bool := fun _ ds => decide (uptoBulkAll ds ≤ 1048576)
def OpenSpec.upto (s : _root_.Go.ChangeSpec) : _root_.Go.OpenSpec := { _root_.Go.OpenSpec.ofChange s with cond := some uptoSmall }

/-- 'coneylaw16.RelTimes', WHERE WHAT IT READS IS OF BULK AT MOST 1048576: true; the input reads as it did. -/
def relTimesUptoRow : OpenClaim := { program := "ytajooiainglpmaagreat", sum := "af7e61d3a8425469e34c1eb5792b74d5aac76e85606613acb9d190715acd5cf3", func := "coney/coneylaw16.RelTimes", spec := "relTimes", unfollowed := true, recurses := true, apart := false, narrowed := true }
def RelTimesUptoSaid : Prop := relTimesUptoRow.holds Tryz.pinned (OpenSpec.upto relTimesSpec)

/-- 'coneylaw16.RelLess', WHERE WHAT IT READS IS OF BULK AT MOST 1048576: true; the input reads as it did. -/
def relLessUptoRow : OpenClaim := { program := "ytajooiainglpmaagreat", sum := "af7e61d3a8425469e34c1eb5792b74d5aac76e85606613acb9d190715acd5cf3", func := "coney/coneylaw16.RelLess", spec := "relLess", unfollowed := true, recurses := true, apart := false, narrowed := true }
def RelLessUptoSaid : Prop := relLessUptoRow.holds Tryz.pinned (OpenSpec.upto relLessSpec)

/-- 'coneylaw17.FixSums', WHERE WHAT IT READS IS OF BULK AT MOST 1048576: true; the input reads as it did. -/
def fixSumsUptoRow : OpenClaim := { program := "ytajooiainglpmaagreat", sum := "af7e61d3a8425469e34c1eb5792b74d5aac76e85606613acb9d190715acd5cf3", func := "coney/coneylaw17.FixSums", spec := "fixSums", unfollowed := true, recurses := true, apart := false, narrowed := true }
def FixSumsUptoSaid : Prop := fixSumsUptoRow.holds Tryz.pinned (OpenSpec.upto fixSumsSpec)

/-- 'coneylaw17.FixComes', WHERE WHAT IT READS IS OF BULK AT MOST 1048576: true; the input reads as it did. -/
def fixComesUptoRow : OpenClaim := { program := "ytajooiainglpmaagreat", sum := "af7e61d3a8425469e34c1eb5792b74d5aac76e85606613acb9d190715acd5cf3", func := "coney/coneylaw17.FixComes", spec := "fixComes", unfollowed := true, recurses := true, apart := false, narrowed := true }
def FixComesUptoSaid : Prop := fixComesUptoRow.holds Tryz.pinned (OpenSpec.upto fixComesSpec)

/-- 'coneylaw17.FixOrder', WHERE WHAT IT READS IS OF BULK AT MOST 1048576: true; the input reads as it did. -/
def fixOrderUptoRow : OpenClaim := { program := "ytajooiainglpmaagreat", sum := "af7e61d3a8425469e34c1eb5792b74d5aac76e85606613acb9d190715acd5cf3", func := "coney/coneylaw17.FixOrder", spec := "fixOrder", unfollowed := true, recurses := true, apart := false, narrowed := true }
def FixOrderUptoSaid : Prop := fixOrderUptoRow.holds Tryz.pinned (OpenSpec.upto fixOrderSpec)

/-- 'coneylaw17.FixKeeps', WHERE WHAT IT READS IS OF BULK AT MOST 1048576: true; the input reads as it did. -/
def fixKeepsUptoRow : OpenClaim := { program := "ytajooiainglpmaagreat", sum := "af7e61d3a8425469e34c1eb5792b74d5aac76e85606613acb9d190715acd5cf3", func := "coney/coneylaw17.FixKeeps", spec := "fixKeeps", unfollowed := true, recurses := true, apart := false, narrowed := true }
def FixKeepsUptoSaid : Prop := fixKeepsUptoRow.holds Tryz.pinned (OpenSpec.upto fixKeepsSpec)

/-- 'coneylaw17.FixFixed', WHERE WHAT IT READS IS OF BULK AT MOST 1048576: true; the input reads as it did. -/
def fixFixedUptoRow : OpenClaim := { program := "ytajooiainglpmaagreat", sum := "af7e61d3a8425469e34c1eb5792b74d5aac76e85606613acb9d190715acd5cf3", func := "coney/coneylaw17.FixFixed", spec := "fixFixed", unfollowed := true, recurses := true, apart := false, narrowed := true }
def FixFixedUptoSaid : Prop := fixFixedUptoRow.holds Tryz.pinned (OpenSpec.upto fixFixedSpec)

end Rows
end Go.Proofs.YtajooiainglpmaaGreat
