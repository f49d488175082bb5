/-
  No cell of these rows narrows 'for every input' (looked for: loops, veiled, ifaces, maps, wideKeys, modest, calm, conditions, laid).
  DERIVED. THE GIVEN ROWS OF THIS SEAT. 5 by the template 'for every input the law returns true; each argument reads behind the call as it read before'; 0 by the template 'total and deterministic' (their statements: YtmmogifmogdegaaTotals.lean).
  GIVEN WITH THE SEED: the statements are not yours to turn. If you find one false, say at which input.
  Laid BY PROGRAM, IN A SANDBOX (cutbox-rows.mjs): the forced cells as the released guide's own fill.sh prints them over the translation 4ccfeb652eee0a1e… (all of the seat's roots in one cut). By AI agents, Wed Nov 11 2026. No macro, syntax, notation, axiom, sorry.
-/
import Derived.Test.YtmmogifmogdegaaChecked
import GoSem.Claim
import GoSem.ClaimJoined
import GoSem.ClaimMapViews
import Derived.JoinedTies
import Derived.KernelRfl
namespace Go.Proofs.Ytmmogifmogdegaa
/- THE CELL 'sum', in the pinned program and in every row, IS THE sha256 OF THE DUMP (.gsa) THAT YtmmogifmogdegaaProg.lean LOADS. Nothing in Lean hashes anything: it is a label: what it is worth is what the hold of that sum in a sandbox is worth. -/
noncomputable def Try.pinned : Pinned := { name := "ytmmogifmogdegaa", sum := "4ccfeb652eee0a1e4d6886182b1f0463056d0fc10b39859f88ae069ada1b26f3", checked := Try.checked }
namespace Rows
def none {H : Type} : Left H := { results := [], args := [] }

/-- 'coneylaw15.LinChecks': WHATEVER THE INPUT: true; the input reads as it did. -/
def linChecksSpec : ChangeSpec := { name := "linChecks", fn := fun _ => fun
  | [d1, d2] => { results := [.lit (.bool true)], args := [d1, d2] }
  | _ => none }
def linChecksRow : OpenClaim := { program := "ytmmogifmogdegaa", sum := "4ccfeb652eee0a1e4d6886182b1f0463056d0fc10b39859f88ae069ada1b26f3", func := "coney/coneylaw15.LinChecks", spec := "linChecks", unfollowed := true, recurses := true, apart := false }
def LinChecksSaid : Prop := linChecksRow.holds Try.pinned (OpenSpec.ofChange linChecksSpec)

/-- ITS FALSE NEIGHBOUR: 'it returns false'. Refute it at one input. -/
def linChecksWrong : ChangeSpec := { name := "linChecks", fn := fun _ => fun
  | [d1, d2] => { results := [.lit (.bool false)], args := [d1, d2] }
  | _ => none }
def LinChecksWrongFalsely : Prop := linChecksRow.holds Try.pinned (OpenSpec.ofChange linChecksWrong)

/-- 'coneylaw15.LinAlone': WHATEVER THE INPUT: true; the input reads as it did. -/
def linAloneSpec : ChangeSpec := { name := "linAlone", fn := fun _ => fun
  | [d1, d2, d3, d4] => { results := [.lit (.bool true)], args := [d1, d2, d3, d4] }
  | _ => none }
def linAloneRow : OpenClaim := { program := "ytmmogifmogdegaa", sum := "4ccfeb652eee0a1e4d6886182b1f0463056d0fc10b39859f88ae069ada1b26f3", func := "coney/coneylaw15.LinAlone", spec := "linAlone", unfollowed := true, recurses := true, apart := false }
def LinAloneSaid : Prop := linAloneRow.holds Try.pinned (OpenSpec.ofChange linAloneSpec)

/-- ITS FALSE NEIGHBOUR: 'it returns false'. Refute it at one input. -/
def linAloneWrong : ChangeSpec := { name := "linAlone", fn := fun _ => fun
  | [d1, d2, d3, d4] => { results := [.lit (.bool false)], args := [d1, d2, d3, d4] }
  | _ => none }
def LinAloneWrongFalsely : Prop := linAloneRow.holds Try.pinned (OpenSpec.ofChange linAloneWrong)

/-- 'coneylaw15.LinScaled': WHATEVER THE INPUT: true; the input reads as it did. -/
def linScaledSpec : ChangeSpec := { name := "linScaled", fn := fun _ => fun
  | [d1, d2, d3] => { results := [.lit (.bool true)], args := [d1, d2, d3] }
  | _ => none }
def linScaledRow : OpenClaim := { program := "ytmmogifmogdegaa", sum := "4ccfeb652eee0a1e4d6886182b1f0463056d0fc10b39859f88ae069ada1b26f3", func := "coney/coneylaw15.LinScaled", spec := "linScaled", unfollowed := true, recurses := true, apart := false }
def LinScaledSaid : Prop := linScaledRow.holds Try.pinned (OpenSpec.ofChange linScaledSpec)

/-- ITS FALSE NEIGHBOUR: 'it returns false'. Refute it at one input. -/
def linScaledWrong : ChangeSpec := { name := "linScaled", fn := fun _ => fun
  | [d1, d2, d3] => { results := [.lit (.bool false)], args := [d1, d2, d3] }
  | _ => none }
def LinScaledWrongFalsely : Prop := linScaledRow.holds Try.pinned (OpenSpec.ofChange linScaledWrong)

/-- 'coneylaw15.LinKeeps': WHATEVER THE INPUT: true; the input reads as it did. -/
def linKeepsSpec : ChangeSpec := { name := "linKeeps", fn := fun _ => fun
  | [d1, d2, d3] => { results := [.lit (.bool true)], args := [d1, d2, d3] }
  | _ => none }
def linKeepsRow : OpenClaim := { program := "ytmmogifmogdegaa", sum := "4ccfeb652eee0a1e4d6886182b1f0463056d0fc10b39859f88ae069ada1b26f3", func := "coney/coneylaw15.LinKeeps", spec := "linKeeps", unfollowed := true, recurses := true, apart := false }
def LinKeepsSaid : Prop := linKeepsRow.holds Try.pinned (OpenSpec.ofChange linKeepsSpec)

/-- ITS FALSE NEIGHBOUR: 'it returns false'. Refute it at one input. -/
def linKeepsWrong : ChangeSpec := { name := "linKeeps", fn := fun _ => fun
  | [d1, d2, d3] => { results := [.lit (.bool false)], args := [d1, d2, d3] }
  | _ => none }
def LinKeepsWrongFalsely : Prop := linKeepsRow.holds Try.pinned (OpenSpec.ofChange linKeepsWrong)

/-- 'coneylaw15.LinLess': WHATEVER THE INPUT: true; the input reads as it did. -/
def linLessSpec : ChangeSpec := { name := "linLess", fn := fun _ => fun
  | [d1, d2, d3] => { results := [.lit (.bool true)], args := [d1, d2, d3] }
  | _ => none }
def linLessRow : OpenClaim := { program := "ytmmogifmogdegaa", sum := "4ccfeb652eee0a1e4d6886182b1f0463056d0fc10b39859f88ae069ada1b26f3", func := "coney/coneylaw15.LinLess", spec := "linLess", unfollowed := true, recurses := true, apart := false }
def LinLessSaid : Prop := linLessRow.holds Try.pinned (OpenSpec.ofChange linLessSpec)

/-- ITS FALSE NEIGHBOUR: 'it returns false'. Refute it at one input. -/
def linLessWrong : ChangeSpec := { name := "linLess", fn := fun _ => fun
  | [d1, d2, d3] => { results := [.lit (.bool false)], args := [d1, d2, d3] }
  | _ => none }
def LinLessWrongFalsely : Prop := linLessRow.holds Try.pinned (OpenSpec.ofChange linLessWrong)

/- THE SECOND FORM. 'bulk': how many values and letters a reading holds, each counted each time it is reached (what is shared counts as often as it is met; a slice's spare places count too). A statement '..UptoSaid' is the law's where the arguments, and the package variables that the reading takes, are together of bulk at most 1048576: NARROWER than '..Said'. Prove '..Said' where nothing that the law and all that it calls make is longer than what came in: it says more and counts as full. Else prove '..UptoSaid'. A law counts once. -/
mutual
def uptoBulk {H : Type} : DataW H → Nat
  | .lit (.string bytes) => bytes.length + 1
  | .lit _ => 1
  | .nil => 1
  | .ptr d => uptoBulk d + 1
  | .slice elems spare => uptoBulkAll elems + uptoBulkAll spare + 1
  | .agg parts => uptoBulkAll parts + 1
  | .iface _ d => uptoBulk d + 1
  | .map entries => uptoBulkEntries entries + 1
  | .held _ => 1
def uptoBulkAll {H : Type} : List (DataW H) → Nat
  | [] => 0
  | d :: r => uptoBulk d + uptoBulkAll r
def uptoBulkEntries {H : Type} : List (Lit × DataW H) → Nat
  | [] => 0
  | x :: r => uptoBulkEntry x + uptoBulkEntries r
def uptoBulkEntry {H : Type} : Lit × DataW H → Nat
  | (.string bytes, d) => bytes.length + uptoBulk d + 1
  | (_, d) => uptoBulk d + 1
 end
def uptoSmall : (H : Type) → List (DataW H) → Bool := fun _ ds => decide (uptoBulkAll ds ≤ 1048576)
def OpenSpec.upto (s : _root_.Go.ChangeSpec) : _root_.Go.OpenSpec := { _root_.Go.OpenSpec.ofChange s with cond := some uptoSmall }

/-- 'coneylaw15.LinChecks', WHERE WHAT IT READS IS OF BULK AT MOST 1048576: true; the input reads as it did. -/
def linChecksUptoRow : OpenClaim := { program := "ytmmogifmogdegaa", sum := "4ccfeb652eee0a1e4d6886182b1f0463056d0fc10b39859f88ae069ada1b26f3", func := "coney/coneylaw15.LinChecks", spec := "linChecks", unfollowed := true, recurses := true, apart := false, narrowed := true }
def LinChecksUptoSaid : Prop := linChecksUptoRow.holds Try.pinned (OpenSpec.upto linChecksSpec)

/-- 'coneylaw15.LinAlone', WHERE WHAT IT READS IS OF BULK AT MOST 1048576: true; the input reads as it did. -/
def linAloneUptoRow : OpenClaim := { program := "ytmmogifmogdegaa", sum := "4ccfeb652eee0a1e4d6886182b1f0463056d0fc10b39859f88ae069ada1b26f3", func := "coney/coneylaw15.LinAlone", spec := "linAlone", unfollowed := true, recurses := true, apart := false, narrowed := true }
def LinAloneUptoSaid : Prop := linAloneUptoRow.holds Try.pinned (OpenSpec.upto linAloneSpec)

/-- 'coneylaw15.LinScaled', WHERE WHAT IT READS IS OF BULK AT MOST 1048576: true; the input reads as it did. -/
def linScaledUptoRow : OpenClaim := { program := "ytmmogifmogdegaa", sum := "4ccfeb652eee0a1e4d6886182b1f0463056d0fc10b39859f88ae069ada1b26f3", func := "coney/coneylaw15.LinScaled", spec := "linScaled", unfollowed := true, recurses := true, apart := false, narrowed := true }
def LinScaledUptoSaid : Prop := linScaledUptoRow.holds Try.pinned (OpenSpec.upto linScaledSpec)

/-- 'coneylaw15.LinKeeps', WHERE WHAT IT READS IS OF BULK AT MOST 1048576: true; the input reads as it did. -/
def linKeepsUptoRow : OpenClaim := { program := "ytmmogifmogdegaa", sum := "4ccfeb652eee0a1e4d6886182b1f0463056d0fc10b39859f88ae069ada1b26f3", func := "coney/coneylaw15.LinKeeps", spec := "linKeeps", unfollowed := true, recurses := true, apart := false, narrowed := true }
def LinKeepsUptoSaid : Prop := linKeepsUptoRow.holds Try.pinned (OpenSpec.upto linKeepsSpec)

/-- 'coneylaw15.LinLess', WHERE WHAT IT READS IS OF BULK AT MOST 1048576: true; the input reads as it did. -/
def linLessUptoRow : OpenClaim := { program := "ytmmogifmogdegaa", sum := "4ccfeb652eee0a1e4d6886182b1f0463056d0fc10b39859f88ae069ada1b26f3", func := "coney/coneylaw15.LinLess", spec := "linLess", unfollowed := true, recurses := true, apart := false, narrowed := true }
def LinLessUptoSaid : Prop := linLessUptoRow.holds Try.pinned (OpenSpec.upto linLessSpec)

end Rows
end Go.Proofs.Ytmmogifmogdegaa
