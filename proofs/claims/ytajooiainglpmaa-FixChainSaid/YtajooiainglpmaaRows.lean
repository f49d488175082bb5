/-
  No cell of these rows narrows 'for every input' (looked for: loops, veiled, ifaces, maps, wideKeys, modest, calm, conditions, laid).
  DERIVED. THE GIVEN ROWS OF THIS SEAT. 4 by the template 'for every input the law returns true; each argument reads behind the call as it read before'; 0 by the template 'total and deterministic' (their statements: YtajooiainglpmaaTotals.lean).
  GIVEN WITH THE SEED: the statements are not yours to turn. If you find one false, say at which input.
  Laid BY PROGRAM, IN A SANDBOX (cutbox-rows.mjs): the forced cells as the released guide's own fill.sh prints them over the translation e1a63531b98c6a71… (all of the seat's roots in one cut). By AI agents, Wed Nov 11 2026. No macro, syntax, notation, axiom, sorry.
-/
import Derived.Test.YtajooiainglpmaaChecked
import GoSem.Claim
import GoSem.ClaimJoined
import GoSem.ClaimMapViews
import Derived.JoinedTies
import Derived.KernelRfl
namespace Go.Proofs.Ytajooiainglpmaa
/- THE CELL 'sum', in the pinned program and in every row, IS THE sha256 OF THE DUMP (.gsa) THAT YtajooiainglpmaaProg.lean LOADS. Nothing in Lean hashes anything: it is a label: what it is worth is what the hold of that sum in a sandbox is worth. -/
noncomputable def Try.pinned : Pinned := { name := "ytajooiainglpmaa", sum := "e1a63531b98c6a71a119b7bb075caeadafbe0db21cced4a3fcb0966ec7793cc0", checked := Try.checked }
namespace Rows
def none {H : Type} : Left H := { results := [], args := [] }

/-- 'coneylaw16.RelPigeons': WHATEVER THE INPUT: true; the input reads as it did. -/
def relPigeonsSpec : ChangeSpec := { name := "relPigeons", fn := fun _ => fun
  | [d1, d2] => { results := [.lit (.bool true)], args := [d1, d2] }
  | _ => none }
def relPigeonsRow : OpenClaim := { program := "ytajooiainglpmaa", sum := "e1a63531b98c6a71a119b7bb075caeadafbe0db21cced4a3fcb0966ec7793cc0", func := "coney/coneylaw16.RelPigeons", spec := "relPigeons", unfollowed := true, recurses := true, apart := false }
def RelPigeonsSaid : Prop := relPigeonsRow.holds Try.pinned (OpenSpec.ofChange relPigeonsSpec)

/-- ITS FALSE NEIGHBOUR: 'it returns false'. Refute it at one input. -/
def relPigeonsWrong : ChangeSpec := { name := "relPigeons", fn := fun _ => fun
  | [d1, d2] => { results := [.lit (.bool false)], args := [d1, d2] }
  | _ => none }
def RelPigeonsWrongFalsely : Prop := relPigeonsRow.holds Try.pinned (OpenSpec.ofChange relPigeonsWrong)

/-- 'coneylaw16.RelKeeps': WHATEVER THE INPUT: true; the input reads as it did. -/
def relKeepsSpec : ChangeSpec := { name := "relKeeps", fn := fun _ => fun
  | [d1, d2, d3] => { results := [.lit (.bool true)], args := [d1, d2, d3] }
  | _ => none }
def relKeepsRow : OpenClaim := { program := "ytajooiainglpmaa", sum := "e1a63531b98c6a71a119b7bb075caeadafbe0db21cced4a3fcb0966ec7793cc0", func := "coney/coneylaw16.RelKeeps", spec := "relKeeps", unfollowed := true, recurses := true, apart := false }
def RelKeepsSaid : Prop := relKeepsRow.holds Try.pinned (OpenSpec.ofChange relKeepsSpec)

/-- ITS FALSE NEIGHBOUR: 'it returns false'. Refute it at one input. -/
def relKeepsWrong : ChangeSpec := { name := "relKeeps", fn := fun _ => fun
  | [d1, d2, d3] => { results := [.lit (.bool false)], args := [d1, d2, d3] }
  | _ => none }
def RelKeepsWrongFalsely : Prop := relKeepsRow.holds Try.pinned (OpenSpec.ofChange relKeepsWrong)

/-- 'coneylaw16.RelFixed': WHATEVER THE INPUT: true; the input reads as it did. -/
def relFixedSpec : ChangeSpec := { name := "relFixed", fn := fun _ => fun
  | [d1, d2] => { results := [.lit (.bool true)], args := [d1, d2] }
  | _ => none }
def relFixedRow : OpenClaim := { program := "ytajooiainglpmaa", sum := "e1a63531b98c6a71a119b7bb075caeadafbe0db21cced4a3fcb0966ec7793cc0", func := "coney/coneylaw16.RelFixed", spec := "relFixed", unfollowed := true, recurses := true, apart := false }
def RelFixedSaid : Prop := relFixedRow.holds Try.pinned (OpenSpec.ofChange relFixedSpec)

/-- ITS FALSE NEIGHBOUR: 'it returns false'. Refute it at one input. -/
def relFixedWrong : ChangeSpec := { name := "relFixed", fn := fun _ => fun
  | [d1, d2] => { results := [.lit (.bool false)], args := [d1, d2] }
  | _ => none }
def RelFixedWrongFalsely : Prop := relFixedRow.holds Try.pinned (OpenSpec.ofChange relFixedWrong)

/-- 'coneylaw17.FixChain': WHATEVER THE INPUT: true; the input reads as it did. -/
def fixChainSpec : ChangeSpec := { name := "fixChain", fn := fun _ => fun
  | [d1, d2] => { results := [.lit (.bool true)], args := [d1, d2] }
  | _ => none }
def fixChainRow : OpenClaim := { program := "ytajooiainglpmaa", sum := "e1a63531b98c6a71a119b7bb075caeadafbe0db21cced4a3fcb0966ec7793cc0", func := "coney/coneylaw17.FixChain", spec := "fixChain", unfollowed := true, recurses := true, apart := false }
def FixChainSaid : Prop := fixChainRow.holds Try.pinned (OpenSpec.ofChange fixChainSpec)

/-- ITS FALSE NEIGHBOUR: 'it returns false'. Refute it at one input. -/
def fixChainWrong : ChangeSpec := { name := "fixChain", fn := fun _ => fun
  | [d1, d2] => { results := [.lit (.bool false)], args := [d1, d2] }
  | _ => none }
def FixChainWrongFalsely : Prop := fixChainRow.holds Try.pinned (OpenSpec.ofChange fixChainWrong)

/- THE SECOND FORM. 'bulk': how many values and letters a reading holds, each counted each time it is reached (what is shared counts as often as it is met; a slice's spare places count too). A statement '..UptoSaid' is the law's where the arguments, and the package variables that the reading takes, are together of bulk at most 1048576: NARROWER than '..Said'. Prove '..Said' where nothing that the law and all that it calls make is longer than what came in: it says more and counts as full. Else prove '..UptoSaid'. A law counts once. -/
mutual
def uptoBulk {H : Type} : DataW H → Nat
  | .lit (.string bytes) => bytes.length + 1
  | .lit _ => 1
  | .nil => 1
  | .ptr d => uptoBulk d + 1
  | .slice elems spare => uptoBulkAll elems + uptoBulkAll spare + 1
  | .agg parts => uptoBulkAll parts + 1
  | .iface _ d => uptoBulk d + 1
  | .map entries => uptoBulkEntries entries + 1
  | .held _ => 1
def uptoBulkAll {H : Type} : List (DataW H) → Nat
  | [] => 0
  | d :: r => uptoBulk d + uptoBulkAll r
def uptoBulkEntries {H : Type} : List (Lit × DataW H) → Nat
  | [] => 0
  | x :: r => uptoBulkEntry x + uptoBulkEntries r
def uptoBulkEntry {H : Type} : Lit × DataW H → Nat
  | (.string bytes, d) => bytes.length + uptoBulk d + 1
  | (_, d) => uptoBulk d + 1
 end
def uptoSmall : (H : Type) → List (DataW H) → Bool := fun _ ds => decide (uptoBulkAll ds ≤ 1048576)
def OpenSpec.upto (s : _root_.Go.ChangeSpec) : _root_.Go.OpenSpec := { _root_.Go.OpenSpec.ofChange s with cond := some uptoSmall }

/-- 'coneylaw16.RelPigeons', WHERE WHAT IT READS IS OF BULK AT MOST 1048576: true; the input reads as it did. -/
def relPigeonsUptoRow : OpenClaim := { program := "ytajooiainglpmaa", sum := "e1a63531b98c6a71a119b7bb075caeadafbe0db21cced4a3fcb0966ec7793cc0", func := "coney/coneylaw16.RelPigeons", spec := "relPigeons", unfollowed := true, recurses := true, apart := false, narrowed := true }
def RelPigeonsUptoSaid : Prop := relPigeonsUptoRow.holds Try.pinned (OpenSpec.upto relPigeonsSpec)

/-- 'coneylaw16.RelKeeps', WHERE WHAT IT READS IS OF BULK AT MOST 1048576: true; the input reads as it did. -/
def relKeepsUptoRow : OpenClaim := { program := "ytajooiainglpmaa", sum := "e1a63531b98c6a71a119b7bb075caeadafbe0db21cced4a3fcb0966ec7793cc0", func := "coney/coneylaw16.RelKeeps", spec := "relKeeps", unfollowed := true, recurses := true, apart := false, narrowed := true }
def RelKeepsUptoSaid : Prop := relKeepsUptoRow.holds Try.pinned (OpenSpec.upto relKeepsSpec)

/-- 'coneylaw16.RelFixed', WHERE WHAT IT READS IS OF BULK AT MOST 1048576: true; the input reads as it did. -/
def relFixedUptoRow : OpenClaim := { program := "ytajooiainglpmaa", sum := "e1a63531b98c6a71a119b7bb075caeadafbe0db21cced4a3fcb0966ec7793cc0", func := "coney/coneylaw16.RelFixed", spec := "relFixed", unfollowed := true, recurses := true, apart := false, narrowed := true }
def RelFixedUptoSaid : Prop := relFixedUptoRow.holds Try.pinned (OpenSpec.upto relFixedSpec)

/-- 'coneylaw17.FixChain', WHERE WHAT IT READS IS OF BULK AT MOST 1048576: true; the input reads as it did. -/
def fixChainUptoRow : OpenClaim := { program := "ytajooiainglpmaa", sum := "e1a63531b98c6a71a119b7bb075caeadafbe0db21cced4a3fcb0966ec7793cc0", func := "coney/coneylaw17.FixChain", spec := "fixChain", unfollowed := true, recurses := true, apart := false, narrowed := true }
def FixChainUptoSaid : Prop := fixChainUptoRow.holds Try.pinned (OpenSpec.upto fixChainSpec)

end Rows
end Go.Proofs.Ytajooiainglpmaa
