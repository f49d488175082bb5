/-
  NARROWER THAN 'FOR EVERY INPUT', by the rows' own cells (each row's printed sentence says how): OpsSides: laid · OpsTable: laid · OpsKnown: laid.
  DERIVED. THE GIVEN ROWS OF THIS SEAT. 3 by the template 'for every input the law returns true; each argument reads behind the call as it read before'; 0 by the template 'total and deterministic' (their statements: YthdjpealdpkggaaDoorTotals.lean).
  GIVEN WITH THE SEED: the statements are not yours to turn. If you find one false, say at which input.
  Laid BY PROGRAM, IN A SANDBOX (cutbox-rows.mjs): the forced cells as the released guide's own fill.sh prints them over the translation 492d4642eae1834b… (all of the seat's roots in one cut). By AI agents, Wed Nov 11 2026. No macro, syntax, notation, axiom, sorry.
-/
import Derived.Test.YthdjpealdpkggaaDoorChecked
import GoSem.Claim
import GoSem.ClaimJoined
import GoSem.ClaimMapViews
import Derived.JoinedTies
import Derived.KernelRfl
namespace Go.Proofs.YthdjpealdpkggaaDoor
/- THE CELL 'sum', in the pinned program and in every row, IS THE sha256 OF THE DUMP (.gsa) THAT YthdjpealdpkggaaDoorProg.lean LOADS. Nothing in Lean hashes anything: it is a label: what it is worth is what the hold of that sum in a sandbox is worth. -/
noncomputable def Tryd.pinned : Pinned := { name := "ythdjpealdpkggaadoor", sum := "492d4642eae1834bc27151493488830e7a8e5bbffc4e8e1cc4d56d63088241c9", checked := Tryd.checked }
namespace Rows
def none {H : Type} : Left H := { results := [], args := [] }

/- WHAT THE LISTED PACKAGE-LEVEL VARIABLES READ AS WHEN THE CALL BEGINS. Each datum BY PROGRAM (the guide's laid-datum.mjs) off the statement by which the dump's own 'gosem.cut.vars' lays the variable. In a bare row this is a premise. The card (YthdjpealdpkggaaDoorCards.lean) ties it to the program's text. -/
def laid_coney_ops_table {H : Type} : DataW H := .agg [.agg [.lit (.string [58, 45]), .lit (.string [120, 102, 120]), .lit (.int .i64 1200)], .agg [.lit (.string [58, 45]), .lit (.string [102, 120]), .lit (.int .i64 1200)], .agg [.lit (.string [59]), .lit (.string [120, 102, 121]), .lit (.int .i64 1100)], .agg [.lit (.string [45, 62]), .lit (.string [120, 102, 121]), .lit (.int .i64 1050)], .agg [.lit (.string [44]), .lit (.string [120, 102, 121]), .lit (.int .i64 1000)], .agg [.lit (.string [92, 43]), .lit (.string [102, 121]), .lit (.int .i64 900)], .agg [.lit (.string [35, 60, 61, 62]), .lit (.string [120, 102, 120]), .lit (.int .i64 760)], .agg [.lit (.string [61]), .lit (.string [120, 102, 120]), .lit (.int .i64 700)], .agg [.lit (.string [92, 61]), .lit (.string [120, 102, 120]), .lit (.int .i64 700)], .agg [.lit (.string [61, 61]), .lit (.string [120, 102, 120]), .lit (.int .i64 700)], .agg [.lit (.string [92, 61, 61]), .lit (.string [120, 102, 120]), .lit (.int .i64 700)], .agg [.lit (.string [64, 60]), .lit (.string [120, 102, 120]), .lit (.int .i64 700)], .agg [.lit (.string [64, 62]), .lit (.string [120, 102, 120]), .lit (.int .i64 700)], .agg [.lit (.string [64, 61, 60]), .lit (.string [120, 102, 120]), .lit (.int .i64 700)], .agg [.lit (.string [64, 62, 61]), .lit (.string [120, 102, 120]), .lit (.int .i64 700)], .agg [.lit (.string [105, 115]), .lit (.string [120, 102, 120]), .lit (.int .i64 700)], .agg [.lit (.string [61, 58, 61]), .lit (.string [120, 102, 120]), .lit (.int .i64 700)], .agg [.lit (.string [61, 92, 61]), .lit (.string [120, 102, 120]), .lit (.int .i64 700)], .agg [.lit (.string [60]), .lit (.string [120, 102, 120]), .lit (.int .i64 700)], .agg [.lit (.string [62]), .lit (.string [120, 102, 120]), .lit (.int .i64 700)], .agg [.lit (.string [61, 60]), .lit (.string [120, 102, 120]), .lit (.int .i64 700)], .agg [.lit (.string [62, 61]), .lit (.string [120, 102, 120]), .lit (.int .i64 700)], .agg [.lit (.string [61, 46, 46]), .lit (.string [120, 102, 120]), .lit (.int .i64 700)], .agg [.lit (.string [35, 61]), .lit (.string [120, 102, 120]), .lit (.int .i64 700)], .agg [.lit (.string [35, 92, 61]), .lit (.string [120, 102, 120]), .lit (.int .i64 700)], .agg [.lit (.string [35, 60]), .lit (.string [120, 102, 120]), .lit (.int .i64 700)], .agg [.lit (.string [35, 62]), .lit (.string [120, 102, 120]), .lit (.int .i64 700)], .agg [.lit (.string [35, 61, 60]), .lit (.string [120, 102, 120]), .lit (.int .i64 700)], .agg [.lit (.string [35, 62, 61]), .lit (.string [120, 102, 120]), .lit (.int .i64 700)], .agg [.lit (.string [105, 110]), .lit (.string [120, 102, 120]), .lit (.int .i64 700)], .agg [.lit (.string [92, 47]), .lit (.string [121, 102, 120]), .lit (.int .i64 550)], .agg [.lit (.string [46, 46]), .lit (.string [120, 102, 120]), .lit (.int .i64 450)], .agg [.lit (.string [43]), .lit (.string [121, 102, 120]), .lit (.int .i64 500)], .agg [.lit (.string [45]), .lit (.string [121, 102, 120]), .lit (.int .i64 500)], .agg [.lit (.string [43]), .lit (.string [102, 121]), .lit (.int .i64 200)], .agg [.lit (.string [45]), .lit (.string [102, 121]), .lit (.int .i64 200)], .agg [.lit (.string [42]), .lit (.string [121, 102, 120]), .lit (.int .i64 400)], .agg [.lit (.string [47, 47]), .lit (.string [121, 102, 120]), .lit (.int .i64 400)], .agg [.lit (.string [114, 101, 109]), .lit (.string [121, 102, 120]), .lit (.int .i64 400)], .agg [.lit (.string [109, 111, 100]), .lit (.string [121, 102, 120]), .lit (.int .i64 400)], .agg [.lit (.string [100, 105, 118]), .lit (.string [121, 102, 120]), .lit (.int .i64 400)], .agg [.lit (.string [94]), .lit (.string [120, 102, 121]), .lit (.int .i64 200)]]

/-- 'coneylaw04.OpsSides': WHATEVER THE INPUT: true; the input reads as it did. -/
def opsSidesSpec : ChangeSpec := { name := "opsSides", fn := fun _ => fun
  | [d] => { results := [.lit (.bool true)], args := [d] }
  | _ => none }
def opsSidesRow : OpenClaim := { program := "ythdjpealdpkggaadoor", sum := "492d4642eae1834bc27151493488830e7a8e5bbffc4e8e1cc4d56d63088241c9", func := "coney/coneylaw04.OpsSides", spec := "opsSides", named := ["coney/ops.table"], apart := false, laid := [("coney/ops.table", laid_coney_ops_table)] }
def OpsSidesSaid : Prop := opsSidesRow.holds Tryd.pinned (OpenSpec.ofChange opsSidesSpec)

/-- ITS FALSE NEIGHBOUR: 'it returns false'. Refute it at one input. -/
def opsSidesWrong : ChangeSpec := { name := "opsSides", fn := fun _ => fun
  | [d] => { results := [.lit (.bool false)], args := [d] }
  | _ => none }
def OpsSidesWrongFalsely : Prop := opsSidesRow.holds Tryd.pinned (OpenSpec.ofChange opsSidesWrong)

/-- 'coneylaw04.OpsTable': WHATEVER THE INPUT: true; the input reads as it did. -/
def opsTableSpec : ChangeSpec := { name := "opsTable", fn := fun _ => fun
  | [d] => { results := [.lit (.bool true)], args := [d] }
  | _ => none }
def opsTableRow : OpenClaim := { program := "ythdjpealdpkggaadoor", sum := "492d4642eae1834bc27151493488830e7a8e5bbffc4e8e1cc4d56d63088241c9", func := "coney/coneylaw04.OpsTable", spec := "opsTable", named := ["coney/ops.table"], apart := false, laid := [("coney/ops.table", laid_coney_ops_table)] }
def OpsTableSaid : Prop := opsTableRow.holds Tryd.pinned (OpenSpec.ofChange opsTableSpec)

/-- ITS FALSE NEIGHBOUR: 'it returns false'. Refute it at one input. -/
def opsTableWrong : ChangeSpec := { name := "opsTable", fn := fun _ => fun
  | [d] => { results := [.lit (.bool false)], args := [d] }
  | _ => none }
def OpsTableWrongFalsely : Prop := opsTableRow.holds Tryd.pinned (OpenSpec.ofChange opsTableWrong)

/-- 'coneylaw04.OpsKnown': WHATEVER THE INPUT: true; the input reads as it did. -/
def opsKnownSpec : ChangeSpec := { name := "opsKnown", fn := fun _ => fun
  | [d] => { results := [.lit (.bool true)], args := [d] }
  | _ => none }
def opsKnownRow : OpenClaim := { program := "ythdjpealdpkggaadoor", sum := "492d4642eae1834bc27151493488830e7a8e5bbffc4e8e1cc4d56d63088241c9", func := "coney/coneylaw04.OpsKnown", spec := "opsKnown", named := ["coney/ops.table"], apart := false, laid := [("coney/ops.table", laid_coney_ops_table)] }
def OpsKnownSaid : Prop := opsKnownRow.holds Tryd.pinned (OpenSpec.ofChange opsKnownSpec)

/-- ITS FALSE NEIGHBOUR: 'it returns false'. Refute it at one input. -/
def opsKnownWrong : ChangeSpec := { name := "opsKnown", fn := fun _ => fun
  | [d] => { results := [.lit (.bool false)], args := [d] }
  | _ => none }
def OpsKnownWrongFalsely : Prop := opsKnownRow.holds Tryd.pinned (OpenSpec.ofChange opsKnownWrong)

/- THE SECOND FORM. 'bulk': how many values and letters a reading holds, each counted each time it is reached (what is shared counts as often as it is met; a slice's spare places count too). A statement '..UptoSaid' is the law's where the arguments, and the package variables that the reading takes, are together of bulk at most 1048576: NARROWER than '..Said'. Prove '..Said' where nothing that the law and all that it calls make is longer than what came in: it says more and counts as full. Else prove '..UptoSaid'. A law counts once. -/
mutual
def uptoBulk {H : Type} : DataW H → Nat
  | .lit (.string bytes) => bytes.length + 1
  | .lit _ => 1
  | .nil => 1
  | .ptr d => uptoBulk d + 1
  | .slice elems spare => uptoBulkAll elems + uptoBulkAll spare + 1
  | .agg parts => uptoBulkAll parts + 1
  | .iface _ d => uptoBulk d + 1
  | .map entries => uptoBulkEntries entries + 1
  | .held _ => 1
def uptoBulkAll {H : Type} : List (DataW H) → Nat
  | [] => 0
  | d :: r => uptoBulk d + uptoBulkAll r
def uptoBulkEntries {H : Type} : List (Lit × DataW H) → Nat
  | [] => 0
  | x :: r => uptoBulkEntry x + uptoBulkEntries r
def uptoBulkEntry {H : Type} : Lit × DataW H → Nat
  | (.string bytes, d) => bytes.length + uptoBulk d + 1
  | (_, d) => uptoBulk d + 1
 end
def uptoSmall : (H : Type) → List (DataW H) → Bool := fun _ ds => decide (uptoBulkAll ds ≤ 1048576)
def OpenSpec.upto (s : _root_.Go.ChangeSpec) : _root_.Go.OpenSpec := { _root_.Go.OpenSpec.ofChange s with cond := some uptoSmall }

/-- 'coneylaw04.OpsSides', WHERE WHAT IT READS IS OF BULK AT MOST 1048576: true; the input reads as it did. -/
def opsSidesUptoRow : OpenClaim := { program := "ythdjpealdpkggaadoor", sum := "492d4642eae1834bc27151493488830e7a8e5bbffc4e8e1cc4d56d63088241c9", func := "coney/coneylaw04.OpsSides", spec := "opsSides", named := ["coney/ops.table"], apart := false, laid := [("coney/ops.table", laid_coney_ops_table)], narrowed := true }
def OpsSidesUptoSaid : Prop := opsSidesUptoRow.holds Tryd.pinned (OpenSpec.upto opsSidesSpec)

/-- 'coneylaw04.OpsTable', WHERE WHAT IT READS IS OF BULK AT MOST 1048576: true; the input reads as it did. -/
def opsTableUptoRow : OpenClaim := { program := "ythdjpealdpkggaadoor", sum := "492d4642eae1834bc27151493488830e7a8e5bbffc4e8e1cc4d56d63088241c9", func := "coney/coneylaw04.OpsTable", spec := "opsTable", named := ["coney/ops.table"], apart := false, laid := [("coney/ops.table", laid_coney_ops_table)], narrowed := true }
def OpsTableUptoSaid : Prop := opsTableUptoRow.holds Tryd.pinned (OpenSpec.upto opsTableSpec)

/-- 'coneylaw04.OpsKnown', WHERE WHAT IT READS IS OF BULK AT MOST 1048576: true; the input reads as it did. -/
def opsKnownUptoRow : OpenClaim := { program := "ythdjpealdpkggaadoor", sum := "492d4642eae1834bc27151493488830e7a8e5bbffc4e8e1cc4d56d63088241c9", func := "coney/coneylaw04.OpsKnown", spec := "opsKnown", named := ["coney/ops.table"], apart := false, laid := [("coney/ops.table", laid_coney_ops_table)], narrowed := true }
def OpsKnownUptoSaid : Prop := opsKnownUptoRow.holds Tryd.pinned (OpenSpec.upto opsKnownSpec)

end Rows
end Go.Proofs.YthdjpealdpkggaaDoor
