/-
  No cell of these rows narrows 'for every input' (looked for: loops, veiled, ifaces, maps, wideKeys, modest, calm, conditions, laid).
  DERIVED. THE GIVEN ROWS OF THIS SEAT. 8 by the template 'for every input the law returns true; each argument reads behind the call as it read before'; 0 by the template 'total and deterministic' (their statements: YtlihgipfimdlpaaTotals.lean).
  GIVEN WITH THE SEED: the statements are not yours to turn. If you find one false, say at which input.
  Laid BY PROGRAM, IN A SANDBOX (cutbox-rows.mjs): the forced cells as the released guide's own fill.sh prints them over the translation df067a983376f56f… (all of the seat's roots in one cut). By AI agents, Wed Nov 11 2026. No macro, syntax, notation, axiom, sorry.
-/
import Derived.Test.YtlihgipfimdlpaaChecked
import GoSem.Claim
import GoSem.ClaimJoined
import GoSem.ClaimMapViews
import Derived.JoinedTies
import Derived.KernelRfl
namespace Go.Proofs.Ytlihgipfimdlpaa
/- THE CELL 'sum', in the pinned program and in every row, IS THE sha256 OF THE DUMP (.gsa) THAT YtlihgipfimdlpaaProg.lean LOADS. Nothing in Lean hashes anything: it is a label: what it is worth is what the hold of that sum in a sandbox is worth. -/
noncomputable def Try.pinned : Pinned := { name := "ytlihgipfimdlpaa", sum := "df067a983376f56f7e4f6a84eb1a835ad3898dead8d7679cf771b20c5149488f", checked := Try.checked }
namespace Rows
def none {H : Type} : Left H := { results := [], args := [] }

/-- 'coneylaw14.DomTurns': WHATEVER THE INPUT: true; the input reads as it did. -/
def domTurnsSpec : ChangeSpec := { name := "domTurns", fn := fun _ => fun
  | [d1, d2] => { results := [.lit (.bool true)], args := [d1, d2] }
  | _ => none }
def domTurnsRow : OpenClaim := { program := "ytlihgipfimdlpaa", sum := "df067a983376f56f7e4f6a84eb1a835ad3898dead8d7679cf771b20c5149488f", func := "coney/coneylaw14.DomTurns", spec := "domTurns", unfollowed := true, recurses := true, apart := false }
def DomTurnsSaid : Prop := domTurnsRow.holds Try.pinned (OpenSpec.ofChange domTurnsSpec)

/-- ITS FALSE NEIGHBOUR: 'it returns false'. Refute it at one input. -/
def domTurnsWrong : ChangeSpec := { name := "domTurns", fn := fun _ => fun
  | [d1, d2] => { results := [.lit (.bool false)], args := [d1, d2] }
  | _ => none }
def DomTurnsWrongFalsely : Prop := domTurnsRow.holds Try.pinned (OpenSpec.ofChange domTurnsWrong)

/-- 'coneylaw14.DomMoves': WHATEVER THE INPUT: true; the input reads as it did. -/
def domMovesSpec : ChangeSpec := { name := "domMoves", fn := fun _ => fun
  | [d1, d2] => { results := [.lit (.bool true)], args := [d1, d2] }
  | _ => none }
def domMovesRow : OpenClaim := { program := "ytlihgipfimdlpaa", sum := "df067a983376f56f7e4f6a84eb1a835ad3898dead8d7679cf771b20c5149488f", func := "coney/coneylaw14.DomMoves", spec := "domMoves", unfollowed := true, recurses := true, apart := false }
def DomMovesSaid : Prop := domMovesRow.holds Try.pinned (OpenSpec.ofChange domMovesSpec)

/-- ITS FALSE NEIGHBOUR: 'it returns false'. Refute it at one input. -/
def domMovesWrong : ChangeSpec := { name := "domMoves", fn := fun _ => fun
  | [d1, d2] => { results := [.lit (.bool false)], args := [d1, d2] }
  | _ => none }
def DomMovesWrongFalsely : Prop := domMovesRow.holds Try.pinned (OpenSpec.ofChange domMovesWrong)

/-- 'coneylaw14.DomPlaces': WHATEVER THE INPUT: true; the input reads as it did. -/
def domPlacesSpec : ChangeSpec := { name := "domPlaces", fn := fun _ => fun
  | [d] => { results := [.lit (.bool true)], args := [d] }
  | _ => none }
def domPlacesRow : OpenClaim := { program := "ytlihgipfimdlpaa", sum := "df067a983376f56f7e4f6a84eb1a835ad3898dead8d7679cf771b20c5149488f", func := "coney/coneylaw14.DomPlaces", spec := "domPlaces", unfollowed := true, recurses := true, apart := false }
def DomPlacesSaid : Prop := domPlacesRow.holds Try.pinned (OpenSpec.ofChange domPlacesSpec)

/-- ITS FALSE NEIGHBOUR: 'it returns false'. Refute it at one input. -/
def domPlacesWrong : ChangeSpec := { name := "domPlaces", fn := fun _ => fun
  | [d] => { results := [.lit (.bool false)], args := [d] }
  | _ => none }
def DomPlacesWrongFalsely : Prop := domPlacesRow.holds Try.pinned (OpenSpec.ofChange domPlacesWrong)

/-- 'coneylaw14.DomTells': WHATEVER THE INPUT: true; the input reads as it did. -/
def domTellsSpec : ChangeSpec := { name := "domTells", fn := fun _ => fun
  | [d1, d2] => { results := [.lit (.bool true)], args := [d1, d2] }
  | _ => none }
def domTellsRow : OpenClaim := { program := "ytlihgipfimdlpaa", sum := "df067a983376f56f7e4f6a84eb1a835ad3898dead8d7679cf771b20c5149488f", func := "coney/coneylaw14.DomTells", spec := "domTells", unfollowed := true, recurses := true, apart := false }
def DomTellsSaid : Prop := domTellsRow.holds Try.pinned (OpenSpec.ofChange domTellsSpec)

/-- ITS FALSE NEIGHBOUR: 'it returns false'. Refute it at one input. -/
def domTellsWrong : ChangeSpec := { name := "domTells", fn := fun _ => fun
  | [d1, d2] => { results := [.lit (.bool false)], args := [d1, d2] }
  | _ => none }
def DomTellsWrongFalsely : Prop := domTellsRow.holds Try.pinned (OpenSpec.ofChange domTellsWrong)

/-- 'coneylaw14.DomSets': WHATEVER THE INPUT: true; the input reads as it did. -/
def domSetsSpec : ChangeSpec := { name := "domSets", fn := fun _ => fun
  | [d1, d2] => { results := [.lit (.bool true)], args := [d1, d2] }
  | _ => none }
def domSetsRow : OpenClaim := { program := "ytlihgipfimdlpaa", sum := "df067a983376f56f7e4f6a84eb1a835ad3898dead8d7679cf771b20c5149488f", func := "coney/coneylaw14.DomSets", spec := "domSets", unfollowed := true, recurses := true, apart := false }
def DomSetsSaid : Prop := domSetsRow.holds Try.pinned (OpenSpec.ofChange domSetsSpec)

/-- ITS FALSE NEIGHBOUR: 'it returns false'. Refute it at one input. -/
def domSetsWrong : ChangeSpec := { name := "domSets", fn := fun _ => fun
  | [d1, d2] => { results := [.lit (.bool false)], args := [d1, d2] }
  | _ => none }
def DomSetsWrongFalsely : Prop := domSetsRow.holds Try.pinned (OpenSpec.ofChange domSetsWrong)

/-- 'coneylaw14.DomAlgebra': WHATEVER THE INPUT: true; the input reads as it did. -/
def domAlgebraSpec : ChangeSpec := { name := "domAlgebra", fn := fun _ => fun
  | [d1, d2, d3] => { results := [.lit (.bool true)], args := [d1, d2, d3] }
  | _ => none }
def domAlgebraRow : OpenClaim := { program := "ytlihgipfimdlpaa", sum := "df067a983376f56f7e4f6a84eb1a835ad3898dead8d7679cf771b20c5149488f", func := "coney/coneylaw14.DomAlgebra", spec := "domAlgebra", unfollowed := true, recurses := true, apart := false }
def DomAlgebraSaid : Prop := domAlgebraRow.holds Try.pinned (OpenSpec.ofChange domAlgebraSpec)

/-- ITS FALSE NEIGHBOUR: 'it returns false'. Refute it at one input. -/
def domAlgebraWrong : ChangeSpec := { name := "domAlgebra", fn := fun _ => fun
  | [d1, d2, d3] => { results := [.lit (.bool false)], args := [d1, d2, d3] }
  | _ => none }
def DomAlgebraWrongFalsely : Prop := domAlgebraRow.holds Try.pinned (OpenSpec.ofChange domAlgebraWrong)

/-- 'coneylaw14.DomSingles': WHATEVER THE INPUT: true; the input reads as it did. -/
def domSinglesSpec : ChangeSpec := { name := "domSingles", fn := fun _ => fun
  | [d] => { results := [.lit (.bool true)], args := [d] }
  | _ => none }
def domSinglesRow : OpenClaim := { program := "ytlihgipfimdlpaa", sum := "df067a983376f56f7e4f6a84eb1a835ad3898dead8d7679cf771b20c5149488f", func := "coney/coneylaw14.DomSingles", spec := "domSingles", unfollowed := true, recurses := true, apart := false }
def DomSinglesSaid : Prop := domSinglesRow.holds Try.pinned (OpenSpec.ofChange domSinglesSpec)

/-- ITS FALSE NEIGHBOUR: 'it returns false'. Refute it at one input. -/
def domSinglesWrong : ChangeSpec := { name := "domSingles", fn := fun _ => fun
  | [d] => { results := [.lit (.bool false)], args := [d] }
  | _ => none }
def DomSinglesWrongFalsely : Prop := domSinglesRow.holds Try.pinned (OpenSpec.ofChange domSinglesWrong)

/-- 'coneylaw14.DomTerms': WHATEVER THE INPUT: true; the input reads as it did. -/
def domTermsSpec : ChangeSpec := { name := "domTerms", fn := fun _ => fun
  | [d1, d2] => { results := [.lit (.bool true)], args := [d1, d2] }
  | _ => none }
def domTermsRow : OpenClaim := { program := "ytlihgipfimdlpaa", sum := "df067a983376f56f7e4f6a84eb1a835ad3898dead8d7679cf771b20c5149488f", func := "coney/coneylaw14.DomTerms", spec := "domTerms", unfollowed := true, recurses := true, apart := false }
def DomTermsSaid : Prop := domTermsRow.holds Try.pinned (OpenSpec.ofChange domTermsSpec)

/-- ITS FALSE NEIGHBOUR: 'it returns false'. Refute it at one input. -/
def domTermsWrong : ChangeSpec := { name := "domTerms", fn := fun _ => fun
  | [d1, d2] => { results := [.lit (.bool false)], args := [d1, d2] }
  | _ => none }
def DomTermsWrongFalsely : Prop := domTermsRow.holds Try.pinned (OpenSpec.ofChange domTermsWrong)

/- THE SECOND FORM. 'bulk': how many values and letters a reading holds, each counted each time it is reached (what is shared counts as often as it is met; a slice's spare places count too). A statement '..UptoSaid' is the law's where the arguments, and the package variables that the reading takes, are together of bulk at most 1048576: NARROWER than '..Said'. Prove '..Said' where nothing that the law and all that it calls make is longer than what came in: it says more and counts as full. Else prove '..UptoSaid'. A law counts once. -/
mutual
def uptoBulk {H : Type} : DataW H → Nat
  | .lit (.string bytes) => bytes.length + 1
  | .lit _ => 1
  | .nil => 1
  | .ptr d => uptoBulk d + 1
  | .slice elems spare => uptoBulkAll elems + uptoBulkAll spare + 1
  | .agg parts => uptoBulkAll parts + 1
  | .iface _ d => uptoBulk d + 1
  | .map entries => uptoBulkEntries entries + 1
  | .held _ => 1
def uptoBulkAll {H : Type} : List (DataW H) → Nat
  | [] => 0
  | d :: r => uptoBulk d + uptoBulkAll r
def uptoBulkEntries {H : Type} : List (Lit × DataW H) → Nat
  | [] => 0
  | x :: r => uptoBulkEntry x + uptoBulkEntries r
def uptoBulkEntry {H : Type} : Lit × DataW H → Nat
  | (.string bytes, d) => bytes.length + uptoBulk d + 1
  | (_, d) => uptoBulk d + 1
 end
def uptoSmall : (H : Type) → List (DataW H) → Bool := fun _ ds => decide (uptoBulkAll ds ≤ 1048576)
def OpenSpec.upto (s : _root_.Go.ChangeSpec) : _root_.Go.OpenSpec := { _root_.Go.OpenSpec.ofChange s with cond := some uptoSmall }

/-- 'coneylaw14.DomTurns', WHERE WHAT IT READS IS OF BULK AT MOST 1048576: true; the input reads as it did. -/
def domTurnsUptoRow : OpenClaim := { program := "ytlihgipfimdlpaa", sum := "df067a983376f56f7e4f6a84eb1a835ad3898dead8d7679cf771b20c5149488f", func := "coney/coneylaw14.DomTurns", spec := "domTurns", unfollowed := true, recurses := true, apart := false, narrowed := true }
def DomTurnsUptoSaid : Prop := domTurnsUptoRow.holds Try.pinned (OpenSpec.upto domTurnsSpec)

/-- 'coneylaw14.DomMoves', WHERE WHAT IT READS IS OF BULK AT MOST 1048576: true; the input reads as it did. -/
def domMovesUptoRow : OpenClaim := { program := "ytlihgipfimdlpaa", sum := "df067a983376f56f7e4f6a84eb1a835ad3898dead8d7679cf771b20c5149488f", func := "coney/coneylaw14.DomMoves", spec := "domMoves", unfollowed := true, recurses := true, apart := false, narrowed := true }
def DomMovesUptoSaid : Prop := domMovesUptoRow.holds Try.pinned (OpenSpec.upto domMovesSpec)

/-- 'coneylaw14.DomPlaces', WHERE WHAT IT READS IS OF BULK AT MOST 1048576: true; the input reads as it did. -/
def domPlacesUptoRow : OpenClaim := { program := "ytlihgipfimdlpaa", sum := "df067a983376f56f7e4f6a84eb1a835ad3898dead8d7679cf771b20c5149488f", func := "coney/coneylaw14.DomPlaces", spec := "domPlaces", unfollowed := true, recurses := true, apart := false, narrowed := true }
def DomPlacesUptoSaid : Prop := domPlacesUptoRow.holds Try.pinned (OpenSpec.upto domPlacesSpec)

/-- 'coneylaw14.DomTells', WHERE WHAT IT READS IS OF BULK AT MOST 1048576: true; the input reads as it did. -/
def domTellsUptoRow : OpenClaim := { program := "ytlihgipfimdlpaa", sum := "df067a983376f56f7e4f6a84eb1a835ad3898dead8d7679cf771b20c5149488f", func := "coney/coneylaw14.DomTells", spec := "domTells", unfollowed := true, recurses := true, apart := false, narrowed := true }
def DomTellsUptoSaid : Prop := domTellsUptoRow.holds Try.pinned (OpenSpec.upto domTellsSpec)

/-- 'coneylaw14.DomSets', WHERE WHAT IT READS IS OF BULK AT MOST 1048576: true; the input reads as it did. -/
def domSetsUptoRow : OpenClaim := { program := "ytlihgipfimdlpaa", sum := "df067a983376f56f7e4f6a84eb1a835ad3898dead8d7679cf771b20c5149488f", func := "coney/coneylaw14.DomSets", spec := "domSets", unfollowed := true, recurses := true, apart := false, narrowed := true }
def DomSetsUptoSaid : Prop := domSetsUptoRow.holds Try.pinned (OpenSpec.upto domSetsSpec)

/-- 'coneylaw14.DomAlgebra', WHERE WHAT IT READS IS OF BULK AT MOST 1048576: true; the input reads as it did. -/
def domAlgebraUptoRow : OpenClaim := { program := "ytlihgipfimdlpaa", sum := "df067a983376f56f7e4f6a84eb1a835ad3898dead8d7679cf771b20c5149488f", func := "coney/coneylaw14.DomAlgebra", spec := "domAlgebra", unfollowed := true, recurses := true, apart := false, narrowed := true }
def DomAlgebraUptoSaid : Prop := domAlgebraUptoRow.holds Try.pinned (OpenSpec.upto domAlgebraSpec)

/-- 'coneylaw14.DomSingles', WHERE WHAT IT READS IS OF BULK AT MOST 1048576: true; the input reads as it did. -/
def domSinglesUptoRow : OpenClaim := { program := "ytlihgipfimdlpaa", sum := "df067a983376f56f7e4f6a84eb1a835ad3898dead8d7679cf771b20c5149488f", func := "coney/coneylaw14.DomSingles", spec := "domSingles", unfollowed := true, recurses := true, apart := false, narrowed := true }
def DomSinglesUptoSaid : Prop := domSinglesUptoRow.holds Try.pinned (OpenSpec.upto domSinglesSpec)

/-- 'coneylaw14.DomTerms', WHERE WHAT IT READS IS OF BULK AT MOST 1048576: true; the input reads as it did. -/
def domTermsUptoRow : OpenClaim := { program := "ytlihgipfimdlpaa", sum := "df067a983376f56f7e4f6a84eb1a835ad3898dead8d7679cf771b20c5149488f", func := "coney/coneylaw14.DomTerms", spec := "domTerms", unfollowed := true, recurses := true, apart := false, narrowed := true }
def DomTermsUptoSaid : Prop := domTermsUptoRow.holds Try.pinned (OpenSpec.upto domTermsSpec)

end Rows
end Go.Proofs.Ytlihgipfimdlpaa
