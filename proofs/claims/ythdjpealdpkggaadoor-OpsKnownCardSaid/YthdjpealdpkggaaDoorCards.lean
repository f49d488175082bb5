/-
  DERIVED. GIVEN WITH THE SEED: THE CARDS: each row of YthdjpealdpkggaaDoorRows.lean that lists a variable, with what it lists TIED to the program's text (the seventh form; the later family's looks); each row that meets fmt, with fmt's text TOLD by the authors' own Lean function (tested against real Go, not proved from fmt's source: count such statements apart). THE CARD IS WHAT COUNTS. Prove the row's statement (the work); the ties are given (YthdjpealdpkggaaDoorTie.lean); close each card by the builder's one call (the guide's Derived/Test/ToyasCard.lean, 'card_holds'). Laid BY PROGRAM, IN A SANDBOX (cutbox-door.mjs). By AI agents, Wed Nov 11 2026. No macro, syntax, notation, axiom, sorry.
-/
import Derived.Test.YthdjpealdpkggaaDoorRows
import GoSem.ClaimSeven
namespace Go.Proofs.YthdjpealdpkggaaDoor
namespace Rows

/-- THE TIED CARD OF 'coneylaw04.OpsSides'. -/
def opsSidesCard : Claim7 := { stood := { row := opsSidesRow, standIns := [], harness := (true, "5a5c9636b0037943dc3a8a3f7e15f677cf13c7582812afccaa3fd5fdaafe887a"), looks := false }, kinds := [], alts := [], laidByText := true, laidKinds := [.data], laidTests := true, laidLooks := .later }
def OpsSidesCardSaid : Prop := Claim7.holds Tryd.pinned (.plain (OpenSpec.ofChange opsSidesSpec)) opsSidesCard

/-- THE TIED CARD OF 'coneylaw04.OpsTable'. -/
def opsTableCard : Claim7 := { stood := { row := opsTableRow, standIns := [], harness := (true, "5a5c9636b0037943dc3a8a3f7e15f677cf13c7582812afccaa3fd5fdaafe887a"), looks := false }, kinds := [], alts := [], laidByText := true, laidKinds := [.data], laidTests := true, laidLooks := .later }
def OpsTableCardSaid : Prop := Claim7.holds Tryd.pinned (.plain (OpenSpec.ofChange opsTableSpec)) opsTableCard

/-- THE TIED CARD OF 'coneylaw04.OpsKnown'. -/
def opsKnownCard : Claim7 := { stood := { row := opsKnownRow, standIns := [], harness := (true, "5a5c9636b0037943dc3a8a3f7e15f677cf13c7582812afccaa3fd5fdaafe887a"), looks := false }, kinds := [], alts := [], laidByText := true, laidKinds := [.data], laidTests := true, laidLooks := .later }
def OpsKnownCardSaid : Prop := Claim7.holds Tryd.pinned (.plain (OpenSpec.ofChange opsKnownSpec)) opsKnownCard

/-- THE SECOND FORM's CARD OF 'coneylaw04.OpsSides'. -/
def opsSidesUptoCard : Claim7 := { stood := { row := opsSidesUptoRow, standIns := [], harness := (true, "5a5c9636b0037943dc3a8a3f7e15f677cf13c7582812afccaa3fd5fdaafe887a"), looks := false }, kinds := [], alts := [], laidByText := true, laidKinds := [.data], laidTests := true, laidLooks := .later }
def OpsSidesUptoCardSaid : Prop := Claim7.holds Tryd.pinned (.plain (OpenSpec.upto opsSidesSpec)) opsSidesUptoCard

/-- THE SECOND FORM's CARD OF 'coneylaw04.OpsTable'. -/
def opsTableUptoCard : Claim7 := { stood := { row := opsTableUptoRow, standIns := [], harness := (true, "5a5c9636b0037943dc3a8a3f7e15f677cf13c7582812afccaa3fd5fdaafe887a"), looks := false }, kinds := [], alts := [], laidByText := true, laidKinds := [.data], laidTests := true, laidLooks := .later }
def OpsTableUptoCardSaid : Prop := Claim7.holds Tryd.pinned (.plain (OpenSpec.upto opsTableSpec)) opsTableUptoCard

/-- THE SECOND FORM's CARD OF 'coneylaw04.OpsKnown'. -/
def opsKnownUptoCard : Claim7 := { stood := { row := opsKnownUptoRow, standIns := [], harness := (true, "5a5c9636b0037943dc3a8a3f7e15f677cf13c7582812afccaa3fd5fdaafe887a"), looks := false }, kinds := [], alts := [], laidByText := true, laidKinds := [.data], laidTests := true, laidLooks := .later }
def OpsKnownUptoCardSaid : Prop := Claim7.holds Tryd.pinned (.plain (OpenSpec.upto opsKnownSpec)) opsKnownUptoCard
end Rows
end Go.Proofs.YthdjpealdpkggaaDoor
