/-
  No cell of these rows narrows 'for every input' (looked for: loops, veiled, ifaces, maps, wideKeys, modest, calm, conditions, laid).
  DERIVED. THE GIVEN ROWS OF THIS SEAT. 7 by the template 'for every input the law returns true; each argument reads behind the call as it read before'; 0 by the template 'total and deterministic' (their statements: YtaekdgikgbdnnaaGreatTotals.lean).
  GIVEN WITH THE SEED: the statements are not yours to turn. If you find one false, say at which input.
  Laid BY PROGRAM, IN A SANDBOX (cutbox-rows.mjs): the forced cells as the released guide's own fill.sh prints them over the translation ae1c395d8e2b048f… (all of the seat's roots in one cut). By AI agents, Wed Nov 11 2026. No macro, syntax, notation, axiom, sorry.
-/
import Derived.Test.YtaekdgikgbdnnaaGreatChecked
import GoSem.Claim
import GoSem.ClaimJoined
import GoSem.ClaimMapViews
import Derived.JoinedTies
import Derived.KernelRfl
namespace Go.Proofs.YtaekdgikgbdnnaaGreat
/- THE CELL 'sum', in the pinned program and in every row, IS THE sha256 OF THE DUMP (.gsa) THAT YtaekdgikgbdnnaaGreatProg.lean LOADS. Nothing in Lean hashes anything: it is a label: what it is worth is what the hold of that sum in a sandbox is worth. -/
noncomputable def Tryz.pinned : Pinned := { name := "ytaekdgikgbdnnaagreat", sum := "ae1c395d8e2b048ffcfa965c29e818d506e9165b78798d0c69d6c7ed369d2b57", checked := Tryz.checked }
namespace Rows
def none {H : Type} : Left H := { results := [], args := [] }

/-- 'coneylaw19.LabelOptions': WHATEVER THE INPUT: true; the input reads as it did. -/
def labelOptionsSpec : ChangeSpec := { name := "labelOptions", fn := fun _ => fun
  | [d1, d2, d3] => { results := [.lit (.bool true)], args := [d1, d2, d3] }
  | _ => none }
def labelOptionsRow : OpenClaim := { program := "ytaekdgikgbdnnaagreat", sum := "ae1c395d8e2b048ffcfa965c29e818d506e9165b78798d0c69d6c7ed369d2b57", func := "coney/coneylaw19.LabelOptions", spec := "labelOptions", unfollowed := true, recurses := true, apart := false }
def LabelOptionsSaid : Prop := labelOptionsRow.holds Tryz.pinned (OpenSpec.ofChange labelOptionsSpec)

/-- ITS FALSE NEIGHBOUR: 'it returns false'. Refute it at one input. -/
def labelOptionsWrong : ChangeSpec := { name := "labelOptions", fn := fun _ => fun
  | [d1, d2, d3] => { results := [.lit (.bool false)], args := [d1, d2, d3] }
  | _ => none }
def LabelOptionsWrongFalsely : Prop := labelOptionsRow.holds Tryz.pinned (OpenSpec.ofChange labelOptionsWrong)

/-- 'coneylaw19.LabelSolves': WHATEVER THE INPUT: true; the input reads as it did. -/
def labelSolvesSpec : ChangeSpec := { name := "labelSolves", fn := fun _ => fun
  | [d1, d2, d3, d4, d5] => { results := [.lit (.bool true)], args := [d1, d2, d3, d4, d5] }
  | _ => none }
def labelSolvesRow : OpenClaim := { program := "ytaekdgikgbdnnaagreat", sum := "ae1c395d8e2b048ffcfa965c29e818d506e9165b78798d0c69d6c7ed369d2b57", func := "coney/coneylaw19.LabelSolves", spec := "labelSolves", unfollowed := true, recurses := true, apart := false }
def LabelSolvesSaid : Prop := labelSolvesRow.holds Tryz.pinned (OpenSpec.ofChange labelSolvesSpec)

/-- ITS FALSE NEIGHBOUR: 'it returns false'. Refute it at one input. -/
def labelSolvesWrong : ChangeSpec := { name := "labelSolves", fn := fun _ => fun
  | [d1, d2, d3, d4, d5] => { results := [.lit (.bool false)], args := [d1, d2, d3, d4, d5] }
  | _ => none }
def LabelSolvesWrongFalsely : Prop := labelSolvesRow.holds Tryz.pinned (OpenSpec.ofChange labelSolvesWrong)

/-- 'coneylaw19.LabelAll': WHATEVER THE INPUT: true; the input reads as it did. -/
def labelAllSpec : ChangeSpec := { name := "labelAll", fn := fun _ => fun
  | [d1, d2] => { results := [.lit (.bool true)], args := [d1, d2] }
  | _ => none }
def labelAllRow : OpenClaim := { program := "ytaekdgikgbdnnaagreat", sum := "ae1c395d8e2b048ffcfa965c29e818d506e9165b78798d0c69d6c7ed369d2b57", func := "coney/coneylaw19.LabelAll", spec := "labelAll", unfollowed := true, recurses := true, apart := false }
def LabelAllSaid : Prop := labelAllRow.holds Tryz.pinned (OpenSpec.ofChange labelAllSpec)

/-- ITS FALSE NEIGHBOUR: 'it returns false'. Refute it at one input. -/
def labelAllWrong : ChangeSpec := { name := "labelAll", fn := fun _ => fun
  | [d1, d2] => { results := [.lit (.bool false)], args := [d1, d2] }
  | _ => none }
def LabelAllWrongFalsely : Prop := labelAllRow.holds Tryz.pinned (OpenSpec.ofChange labelAllWrong)

/-- 'coneylaw19.LabelTurned': WHATEVER THE INPUT: true; the input reads as it did. -/
def labelTurnedSpec : ChangeSpec := { name := "labelTurned", fn := fun _ => fun
  | [d1, d2] => { results := [.lit (.bool true)], args := [d1, d2] }
  | _ => none }
def labelTurnedRow : OpenClaim := { program := "ytaekdgikgbdnnaagreat", sum := "ae1c395d8e2b048ffcfa965c29e818d506e9165b78798d0c69d6c7ed369d2b57", func := "coney/coneylaw19.LabelTurned", spec := "labelTurned", unfollowed := true, recurses := true, apart := false }
def LabelTurnedSaid : Prop := labelTurnedRow.holds Tryz.pinned (OpenSpec.ofChange labelTurnedSpec)

/-- ITS FALSE NEIGHBOUR: 'it returns false'. Refute it at one input. -/
def labelTurnedWrong : ChangeSpec := { name := "labelTurned", fn := fun _ => fun
  | [d1, d2] => { results := [.lit (.bool false)], args := [d1, d2] }
  | _ => none }
def LabelTurnedWrongFalsely : Prop := labelTurnedRow.holds Tryz.pinned (OpenSpec.ofChange labelTurnedWrong)

/-- 'coneylaw19.LabelFirst': WHATEVER THE INPUT: true; the input reads as it did. -/
def labelFirstSpec : ChangeSpec := { name := "labelFirst", fn := fun _ => fun
  | [d1, d2, d3] => { results := [.lit (.bool true)], args := [d1, d2, d3] }
  | _ => none }
def labelFirstRow : OpenClaim := { program := "ytaekdgikgbdnnaagreat", sum := "ae1c395d8e2b048ffcfa965c29e818d506e9165b78798d0c69d6c7ed369d2b57", func := "coney/coneylaw19.LabelFirst", spec := "labelFirst", unfollowed := true, recurses := true, apart := false }
def LabelFirstSaid : Prop := labelFirstRow.holds Tryz.pinned (OpenSpec.ofChange labelFirstSpec)

/-- ITS FALSE NEIGHBOUR: 'it returns false'. Refute it at one input. -/
def labelFirstWrong : ChangeSpec := { name := "labelFirst", fn := fun _ => fun
  | [d1, d2, d3] => { results := [.lit (.bool false)], args := [d1, d2, d3] }
  | _ => none }
def LabelFirstWrongFalsely : Prop := labelFirstRow.holds Tryz.pinned (OpenSpec.ofChange labelFirstWrong)

/-- 'coneylaw19.LabelLeast': WHATEVER THE INPUT: true; the input reads as it did. -/
def labelLeastSpec : ChangeSpec := { name := "labelLeast", fn := fun _ => fun
  | [d1, d2, d3, d4, d5] => { results := [.lit (.bool true)], args := [d1, d2, d3, d4, d5] }
  | _ => none }
def labelLeastRow : OpenClaim := { program := "ytaekdgikgbdnnaagreat", sum := "ae1c395d8e2b048ffcfa965c29e818d506e9165b78798d0c69d6c7ed369d2b57", func := "coney/coneylaw19.LabelLeast", spec := "labelLeast", unfollowed := true, recurses := true, apart := false }
def LabelLeastSaid : Prop := labelLeastRow.holds Tryz.pinned (OpenSpec.ofChange labelLeastSpec)

/-- ITS FALSE NEIGHBOUR: 'it returns false'. Refute it at one input. -/
def labelLeastWrong : ChangeSpec := { name := "labelLeast", fn := fun _ => fun
  | [d1, d2, d3, d4, d5] => { results := [.lit (.bool false)], args := [d1, d2, d3, d4, d5] }
  | _ => none }
def LabelLeastWrongFalsely : Prop := labelLeastRow.holds Tryz.pinned (OpenSpec.ofChange labelLeastWrong)

/-- 'coneylaw19.LabelMost': WHATEVER THE INPUT: true; the input reads as it did. -/
def labelMostSpec : ChangeSpec := { name := "labelMost", fn := fun _ => fun
  | [d1, d2, d3] => { results := [.lit (.bool true)], args := [d1, d2, d3] }
  | _ => none }
def labelMostRow : OpenClaim := { program := "ytaekdgikgbdnnaagreat", sum := "ae1c395d8e2b048ffcfa965c29e818d506e9165b78798d0c69d6c7ed369d2b57", func := "coney/coneylaw19.LabelMost", spec := "labelMost", unfollowed := true, recurses := true, apart := false }
def LabelMostSaid : Prop := labelMostRow.holds Tryz.pinned (OpenSpec.ofChange labelMostSpec)

/-- ITS FALSE NEIGHBOUR: 'it returns false'. Refute it at one input. -/
def labelMostWrong : ChangeSpec := { name := "labelMost", fn := fun _ => fun
  | [d1, d2, d3] => { results := [.lit (.bool false)], args := [d1, d2, d3] }
  | _ => none }
def LabelMostWrongFalsely : Prop := labelMostRow.holds Tryz.pinned (OpenSpec.ofChange labelMostWrong)

/- THE SECOND FORM. 'bulk': how many values and letters a reading holds, each counted each time it is reached (what is shared counts as often as it is met; a slice's spare places count too). A statement '..UptoSaid' is the law's where the arguments, and the package variables that the reading takes, are together of bulk at most 1048576: NARROWER than '..Said'. Prove '..Said' where nothing that the law and all that it calls make is longer than what came in: it says more and counts as full. Else prove '..UptoSaid'. A law counts once. -/
mutual
def uptoBulk {H : Type} : DataW H → Nat
  | .lit (.string bytes) => bytes.length + 1
  | .lit _ => 1
  | .nil => 1
  | .ptr d => uptoBulk d + 1
  | .slice elems spare => uptoBulkAll elems + uptoBulkAll spare + 1
  | .agg parts => uptoBulkAll parts + 1
  | .iface _ d => uptoBulk d + 1
  | .map entries => uptoBulkEntries entries + 1
  | .held _ => 1
def uptoBulkAll {H : Type} : List (DataW H) → Nat
  | [] => 0
  | d :: r => uptoBulk d + uptoBulkAll r
def uptoBulkEntries {H : Type} : List (Lit × DataW H) → Nat
  | [] => 0
  | x :: r => uptoBulkEntry x + uptoBulkEntries r
def uptoBulkEntry {H : Type} : Lit × DataW H → Nat
  | (.string bytes, d) => bytes.length + uptoBulk d + 1
  | (_, d) => uptoBulk d + 1
 end
def uptoSmall : (H : Type) → List (DataW H) → Bool := fun _ ds => decide (uptoBulkAll ds ≤ 1048576)
def OpenSpec.upto (s : _root_.Go.ChangeSpec) : _root_.Go.OpenSpec := { _root_.Go.OpenSpec.ofChange s with cond := some uptoSmall }

/-- 'coneylaw19.LabelOptions', WHERE WHAT IT READS IS OF BULK AT MOST 1048576: true; the input reads as it did. -/
def labelOptionsUptoRow : OpenClaim := { program := "ytaekdgikgbdnnaagreat", sum := "ae1c395d8e2b048ffcfa965c29e818d506e9165b78798d0c69d6c7ed369d2b57", func := "coney/coneylaw19.LabelOptions", spec := "labelOptions", unfollowed := true, recurses := true, apart := false, narrowed := true }
def LabelOptionsUptoSaid : Prop := labelOptionsUptoRow.holds Tryz.pinned (OpenSpec.upto labelOptionsSpec)

/-- 'coneylaw19.LabelSolves', WHERE WHAT IT READS IS OF BULK AT MOST 1048576: true; the input reads as it did. -/
def labelSolvesUptoRow : OpenClaim := { program := "ytaekdgikgbdnnaagreat", sum := "ae1c395d8e2b048ffcfa965c29e818d506e9165b78798d0c69d6c7ed369d2b57", func := "coney/coneylaw19.LabelSolves", spec := "labelSolves", unfollowed := true, recurses := true, apart := false, narrowed := true }
def LabelSolvesUptoSaid : Prop := labelSolvesUptoRow.holds Tryz.pinned (OpenSpec.upto labelSolvesSpec)

/-- 'coneylaw19.LabelAll', WHERE WHAT IT READS IS OF BULK AT MOST 1048576: true; the input reads as it did. -/
def labelAllUptoRow : OpenClaim := { program := "ytaekdgikgbdnnaagreat", sum := "ae1c395d8e2b048ffcfa965c29e818d506e9165b78798d0c69d6c7ed369d2b57", func := "coney/coneylaw19.LabelAll", spec := "labelAll", unfollowed := true, recurses := true, apart := false, narrowed := true }
def LabelAllUptoSaid : Prop := labelAllUptoRow.holds Tryz.pinned (OpenSpec.upto labelAllSpec)

/-- 'coneylaw19.LabelTurned', WHERE WHAT IT READS IS OF BULK AT MOST 1048576: true; the input reads as it did. -/
def labelTurnedUptoRow : OpenClaim := { program := "ytaekdgikgbdnnaagreat", sum := "ae1c395d8e2b048ffcfa965c29e818d506e9165b78798d0c69d6c7ed369d2b57", func := "coney/coneylaw19.LabelTurned", spec := "labelTurned", unfollowed := true, recurses := true, apart := false, narrowed := true }
def LabelTurnedUptoSaid : Prop := labelTurnedUptoRow.holds Tryz.pinned (OpenSpec.upto labelTurnedSpec)

/-- 'coneylaw19.LabelFirst', WHERE WHAT IT READS IS OF BULK AT MOST 1048576: true; the input reads as it did. -/
def labelFirstUptoRow : OpenClaim := { program := "ytaekdgikgbdnnaagreat", sum := "ae1c395d8e2b048ffcfa965c29e818d506e9165b78798d0c69d6c7ed369d2b57", func := "coney/coneylaw19.LabelFirst", spec := "labelFirst", unfollowed := true, recurses := true, apart := false, narrowed := true }
def LabelFirstUptoSaid : Prop := labelFirstUptoRow.holds Tryz.pinned (OpenSpec.upto labelFirstSpec)

/-- 'coneylaw19.LabelLeast', WHERE WHAT IT READS IS OF BULK AT MOST 1048576: true; the input reads as it did. -/
def labelLeastUptoRow : OpenClaim := { program := "ytaekdgikgbdnnaagreat", sum := "ae1c395d8e2b048ffcfa965c29e818d506e9165b78798d0c69d6c7ed369d2b57", func := "coney/coneylaw19.LabelLeast", spec := "labelLeast", unfollowed := true, recurses := true, apart := false, narrowed := true }
def LabelLeastUptoSaid : Prop := labelLeastUptoRow.holds Tryz.pinned (OpenSpec.upto labelLeastSpec)

/-- 'coneylaw19.LabelMost', WHERE WHAT IT READS IS OF BULK AT MOST 1048576: true; the input reads as it did. -/
def labelMostUptoRow : OpenClaim := { program := "ytaekdgikgbdnnaagreat", sum := "ae1c395d8e2b048ffcfa965c29e818d506e9165b78798d0c69d6c7ed369d2b57", func := "coney/coneylaw19.LabelMost", spec := "labelMost", unfollowed := true, recurses := true, apart := false, narrowed := true }
def LabelMostUptoSaid : Prop := labelMostUptoRow.holds Tryz.pinned (OpenSpec.upto labelMostSpec)

end Rows
end Go.Proofs.YtaekdgikgbdnnaaGreat
