/-
  No cell of these rows narrows 'for every input' (looked for: loops, veiled, ifaces, maps, wideKeys, modest, calm, conditions, laid).
  DERIVED. THE GIVEN ROWS OF THIS SEAT. 11 by the template 'for every input the law returns true; each argument reads behind the call as it read before'; 0 by the template 'total and deterministic' (their statements: YtmffobadnmkpbaaTotals.lean).
  GIVEN WITH THE SEED: the statements are not yours to turn. If you find one false, say at which input.
  Laid BY PROGRAM, IN A SANDBOX (cutbox-rows.mjs): the forced cells as the released guide's own fill.sh prints them over the translation 56682afefdfadcd0… (all of the seat's roots in one cut). By AI agents, Wed Nov 11 2026. No macro, syntax, notation, axiom, sorry.
-/
import Derived.Test.YtmffobadnmkpbaaChecked
import GoSem.Claim
import GoSem.ClaimJoined
import GoSem.ClaimMapViews
import Derived.JoinedTies
import Derived.KernelRfl
namespace Go.Proofs.Ytmffobadnmkpbaa
/- THE CELL 'sum', in the pinned program and in every row, IS THE sha256 OF THE DUMP (.gsa) THAT YtmffobadnmkpbaaProg.lean LOADS. Nothing in Lean hashes anything: it is a label: what it is worth is what the hold of that sum in a sandbox is worth. -/
noncomputable def Try.pinned : Pinned := { name := "ytmffobadnmkpbaa", sum := "56682afefdfadcd0e7fb3c25b282d19e6332b5a140386e25461e3bd9659fef98", checked := Try.checked }
namespace Rows
def none {H : Type} : Left H := { results := [], args := [] }

/-- 'coneylaw07.TermSizes': WHATEVER THE INPUT: true; the input reads as it did. -/
def termSizesSpec : ChangeSpec := { name := "termSizes", fn := fun _ => fun
  | [d] => { results := [.lit (.bool true)], args := [d] }
  | _ => none }
def termSizesRow : OpenClaim := { program := "ytmffobadnmkpbaa", sum := "56682afefdfadcd0e7fb3c25b282d19e6332b5a140386e25461e3bd9659fef98", func := "coney/coneylaw07.TermSizes", spec := "termSizes", unfollowed := true, recurses := true, apart := false }
def TermSizesSaid : Prop := termSizesRow.holds Try.pinned (OpenSpec.ofChange termSizesSpec)

/-- ITS FALSE NEIGHBOUR: 'it returns false'. Refute it at one input. -/
def termSizesWrong : ChangeSpec := { name := "termSizes", fn := fun _ => fun
  | [d] => { results := [.lit (.bool false)], args := [d] }
  | _ => none }
def TermSizesWrongFalsely : Prop := termSizesRow.holds Try.pinned (OpenSpec.ofChange termSizesWrong)

/-- 'coneylaw07.TermTotal': WHATEVER THE INPUT: true; the input reads as it did. -/
def termTotalSpec : ChangeSpec := { name := "termTotal", fn := fun _ => fun
  | [d] => { results := [.lit (.bool true)], args := [d] }
  | _ => none }
def termTotalRow : OpenClaim := { program := "ytmffobadnmkpbaa", sum := "56682afefdfadcd0e7fb3c25b282d19e6332b5a140386e25461e3bd9659fef98", func := "coney/coneylaw07.TermTotal", spec := "termTotal", unfollowed := true, recurses := true, apart := false }
def TermTotalSaid : Prop := termTotalRow.holds Try.pinned (OpenSpec.ofChange termTotalSpec)

/-- ITS FALSE NEIGHBOUR: 'it returns false'. Refute it at one input. -/
def termTotalWrong : ChangeSpec := { name := "termTotal", fn := fun _ => fun
  | [d] => { results := [.lit (.bool false)], args := [d] }
  | _ => none }
def TermTotalWrongFalsely : Prop := termTotalRow.holds Try.pinned (OpenSpec.ofChange termTotalWrong)

/-- 'coneylaw07.TermCopies': WHATEVER THE INPUT: true; the input reads as it did. -/
def termCopiesSpec : ChangeSpec := { name := "termCopies", fn := fun _ => fun
  | [d1, d2] => { results := [.lit (.bool true)], args := [d1, d2] }
  | _ => none }
def termCopiesRow : OpenClaim := { program := "ytmffobadnmkpbaa", sum := "56682afefdfadcd0e7fb3c25b282d19e6332b5a140386e25461e3bd9659fef98", func := "coney/coneylaw07.TermCopies", spec := "termCopies", unfollowed := true, recurses := true, apart := false }
def TermCopiesSaid : Prop := termCopiesRow.holds Try.pinned (OpenSpec.ofChange termCopiesSpec)

/-- ITS FALSE NEIGHBOUR: 'it returns false'. Refute it at one input. -/
def termCopiesWrong : ChangeSpec := { name := "termCopies", fn := fun _ => fun
  | [d1, d2] => { results := [.lit (.bool false)], args := [d1, d2] }
  | _ => none }
def TermCopiesWrongFalsely : Prop := termCopiesRow.holds Try.pinned (OpenSpec.ofChange termCopiesWrong)

/-- 'coneylaw07.TermOrders': WHATEVER THE INPUT: true; the input reads as it did. -/
def termOrdersSpec : ChangeSpec := { name := "termOrders", fn := fun _ => fun
  | [d1, d2] => { results := [.lit (.bool true)], args := [d1, d2] }
  | _ => none }
def termOrdersRow : OpenClaim := { program := "ytmffobadnmkpbaa", sum := "56682afefdfadcd0e7fb3c25b282d19e6332b5a140386e25461e3bd9659fef98", func := "coney/coneylaw07.TermOrders", spec := "termOrders", unfollowed := true, recurses := true, apart := false }
def TermOrdersSaid : Prop := termOrdersRow.holds Try.pinned (OpenSpec.ofChange termOrdersSpec)

/-- ITS FALSE NEIGHBOUR: 'it returns false'. Refute it at one input. -/
def termOrdersWrong : ChangeSpec := { name := "termOrders", fn := fun _ => fun
  | [d1, d2] => { results := [.lit (.bool false)], args := [d1, d2] }
  | _ => none }
def TermOrdersWrongFalsely : Prop := termOrdersRow.holds Try.pinned (OpenSpec.ofChange termOrdersWrong)

/-- 'coneylaw07.TermSorts': WHATEVER THE INPUT: true; the input reads as it did. -/
def termSortsSpec : ChangeSpec := { name := "termSorts", fn := fun _ => fun
  | [d] => { results := [.lit (.bool true)], args := [d] }
  | _ => none }
def termSortsRow : OpenClaim := { program := "ytmffobadnmkpbaa", sum := "56682afefdfadcd0e7fb3c25b282d19e6332b5a140386e25461e3bd9659fef98", func := "coney/coneylaw07.TermSorts", spec := "termSorts", unfollowed := true, recurses := true, apart := false }
def TermSortsSaid : Prop := termSortsRow.holds Try.pinned (OpenSpec.ofChange termSortsSpec)

/-- ITS FALSE NEIGHBOUR: 'it returns false'. Refute it at one input. -/
def termSortsWrong : ChangeSpec := { name := "termSorts", fn := fun _ => fun
  | [d] => { results := [.lit (.bool false)], args := [d] }
  | _ => none }
def TermSortsWrongFalsely : Prop := termSortsRow.holds Try.pinned (OpenSpec.ofChange termSortsWrong)

/-- 'coneylaw10.NormGoals': WHATEVER THE INPUT: true; the input reads as it did. -/
def normGoalsSpec : ChangeSpec := { name := "normGoals", fn := fun _ => fun
  | [d] => { results := [.lit (.bool true)], args := [d] }
  | _ => none }
def normGoalsRow : OpenClaim := { program := "ytmffobadnmkpbaa", sum := "56682afefdfadcd0e7fb3c25b282d19e6332b5a140386e25461e3bd9659fef98", func := "coney/coneylaw10.NormGoals", spec := "normGoals", unfollowed := true, recurses := true, apart := false }
def NormGoalsSaid : Prop := normGoalsRow.holds Try.pinned (OpenSpec.ofChange normGoalsSpec)

/-- ITS FALSE NEIGHBOUR: 'it returns false'. Refute it at one input. -/
def normGoalsWrong : ChangeSpec := { name := "normGoals", fn := fun _ => fun
  | [d] => { results := [.lit (.bool false)], args := [d] }
  | _ => none }
def NormGoalsWrongFalsely : Prop := normGoalsRow.holds Try.pinned (OpenSpec.ofChange normGoalsWrong)

/-- 'coneylaw10.NormEven': WHATEVER THE INPUT: true; the input reads as it did. -/
def normEvenSpec : ChangeSpec := { name := "normEven", fn := fun _ => fun
  | [d] => { results := [.lit (.bool true)], args := [d] }
  | _ => none }
def normEvenRow : OpenClaim := { program := "ytmffobadnmkpbaa", sum := "56682afefdfadcd0e7fb3c25b282d19e6332b5a140386e25461e3bd9659fef98", func := "coney/coneylaw10.NormEven", spec := "normEven", unfollowed := true, recurses := true, apart := false }
def NormEvenSaid : Prop := normEvenRow.holds Try.pinned (OpenSpec.ofChange normEvenSpec)

/-- ITS FALSE NEIGHBOUR: 'it returns false'. Refute it at one input. -/
def normEvenWrong : ChangeSpec := { name := "normEven", fn := fun _ => fun
  | [d] => { results := [.lit (.bool false)], args := [d] }
  | _ => none }
def NormEvenWrongFalsely : Prop := normEvenRow.holds Try.pinned (OpenSpec.ofChange normEvenWrong)

/-- 'coneylaw10.NormSplits': WHATEVER THE INPUT: true; the input reads as it did. -/
def normSplitsSpec : ChangeSpec := { name := "normSplits", fn := fun _ => fun
  | [d] => { results := [.lit (.bool true)], args := [d] }
  | _ => none }
def normSplitsRow : OpenClaim := { program := "ytmffobadnmkpbaa", sum := "56682afefdfadcd0e7fb3c25b282d19e6332b5a140386e25461e3bd9659fef98", func := "coney/coneylaw10.NormSplits", spec := "normSplits", unfollowed := true, recurses := true, apart := false }
def NormSplitsSaid : Prop := normSplitsRow.holds Try.pinned (OpenSpec.ofChange normSplitsSpec)

/-- ITS FALSE NEIGHBOUR: 'it returns false'. Refute it at one input. -/
def normSplitsWrong : ChangeSpec := { name := "normSplits", fn := fun _ => fun
  | [d] => { results := [.lit (.bool false)], args := [d] }
  | _ => none }
def NormSplitsWrongFalsely : Prop := normSplitsRow.holds Try.pinned (OpenSpec.ofChange normSplitsWrong)

/-- 'coneylaw12.IndexKeeps': WHATEVER THE INPUT: true; the input reads as it did. -/
def indexKeepsSpec : ChangeSpec := { name := "indexKeeps", fn := fun _ => fun
  | [d1, d2] => { results := [.lit (.bool true)], args := [d1, d2] }
  | _ => none }
def indexKeepsRow : OpenClaim := { program := "ytmffobadnmkpbaa", sum := "56682afefdfadcd0e7fb3c25b282d19e6332b5a140386e25461e3bd9659fef98", func := "coney/coneylaw12.IndexKeeps", spec := "indexKeeps", unfollowed := true, recurses := true, apart := false }
def IndexKeepsSaid : Prop := indexKeepsRow.holds Try.pinned (OpenSpec.ofChange indexKeepsSpec)

/-- ITS FALSE NEIGHBOUR: 'it returns false'. Refute it at one input. -/
def indexKeepsWrong : ChangeSpec := { name := "indexKeeps", fn := fun _ => fun
  | [d1, d2] => { results := [.lit (.bool false)], args := [d1, d2] }
  | _ => none }
def IndexKeepsWrongFalsely : Prop := indexKeepsRow.holds Try.pinned (OpenSpec.ofChange indexKeepsWrong)

/-- 'coneylaw12.IndexFacts': WHATEVER THE INPUT: true; the input reads as it did. -/
def indexFactsSpec : ChangeSpec := { name := "indexFacts", fn := fun _ => fun
  | [d1, d2, d3] => { results := [.lit (.bool true)], args := [d1, d2, d3] }
  | _ => none }
def indexFactsRow : OpenClaim := { program := "ytmffobadnmkpbaa", sum := "56682afefdfadcd0e7fb3c25b282d19e6332b5a140386e25461e3bd9659fef98", func := "coney/coneylaw12.IndexFacts", spec := "indexFacts", unfollowed := true, recurses := true, apart := false }
def IndexFactsSaid : Prop := indexFactsRow.holds Try.pinned (OpenSpec.ofChange indexFactsSpec)

/-- ITS FALSE NEIGHBOUR: 'it returns false'. Refute it at one input. -/
def indexFactsWrong : ChangeSpec := { name := "indexFacts", fn := fun _ => fun
  | [d1, d2, d3] => { results := [.lit (.bool false)], args := [d1, d2, d3] }
  | _ => none }
def IndexFactsWrongFalsely : Prop := indexFactsRow.holds Try.pinned (OpenSpec.ofChange indexFactsWrong)

/-- 'coneylaw14.DomTerms': WHATEVER THE INPUT: true; the input reads as it did. -/
def domTermsSpec : ChangeSpec := { name := "domTerms", fn := fun _ => fun
  | [d1, d2] => { results := [.lit (.bool true)], args := [d1, d2] }
  | _ => none }
def domTermsRow : OpenClaim := { program := "ytmffobadnmkpbaa", sum := "56682afefdfadcd0e7fb3c25b282d19e6332b5a140386e25461e3bd9659fef98", func := "coney/coneylaw14.DomTerms", spec := "domTerms", unfollowed := true, recurses := true, apart := false }
def DomTermsSaid : Prop := domTermsRow.holds Try.pinned (OpenSpec.ofChange domTermsSpec)

/-- ITS FALSE NEIGHBOUR: 'it returns false'. Refute it at one input. -/
def domTermsWrong : ChangeSpec := { name := "domTerms", fn := fun _ => fun
  | [d1, d2] => { results := [.lit (.bool false)], args := [d1, d2] }
  | _ => none }
def DomTermsWrongFalsely : Prop := domTermsRow.holds Try.pinned (OpenSpec.ofChange domTermsWrong)

/- THE SECOND FORM. 'bulk': how many values and letters a reading holds, each counted each time it is reached (what is shared counts as often as it is met; a slice's spare places count too). A statement '..UptoSaid' is the law's where the arguments, and the package variables that the reading takes, are together of bulk at most 1048576: NARROWER than '..Said'. Prove '..Said' where nothing that the law and all that it calls make is longer than what came in: it says more and counts as full. Else prove '..UptoSaid'. A law counts once. -/
mutual
def uptoBulk {H : Type} : DataW H → Nat
  | .lit (.string bytes) => bytes.length + 1
  | .lit _ => 1
  | .nil => 1
  | .ptr d => uptoBulk d + 1
  | .slice elems spare => uptoBulkAll elems + uptoBulkAll spare + 1
  | .agg parts => uptoBulkAll parts + 1
  | .iface _ d => uptoBulk d + 1
  | .map entries => uptoBulkEntries entries + 1
  | .held _ => 1
def uptoBulkAll {H : Type} : List (DataW H) → Nat
  | [] => 0
  | d :: r => uptoBulk d + uptoBulkAll r
def uptoBulkEntries {H : Type} : List (Lit × DataW H) → Nat
  | [] => 0
  | x :: r => uptoBulkEntry x + uptoBulkEntries r
def uptoBulkEntry {H : Type} : Lit × DataW H → Nat
  | (.string bytes, d) => bytes.length + uptoBulk d + 1
  | (_, d) => uptoBulk d + 1
 end
def uptoSmall : (H : Type) → List (DataW H) → Bool := fun _ ds => decide (uptoBulkAll ds ≤ 1048576)
def OpenSpec.upto (s : _root_.Go.ChangeSpec) : _root_.Go.OpenSpec := { _root_.Go.OpenSpec.ofChange s with cond := some uptoSmall }

/-- 'coneylaw07.TermSizes', WHERE WHAT IT READS IS OF BULK AT MOST 1048576: true; the input reads as it did. -/
def termSizesUptoRow : OpenClaim := { program := "ytmffobadnmkpbaa", sum := "56682afefdfadcd0e7fb3c25b282d19e6332b5a140386e25461e3bd9659fef98", func := "coney/coneylaw07.TermSizes", spec := "termSizes", unfollowed := true, recurses := true, apart := false, narrowed := true }
def TermSizesUptoSaid : Prop := termSizesUptoRow.holds Try.pinned (OpenSpec.upto termSizesSpec)

/-- 'coneylaw07.TermTotal', WHERE WHAT IT READS IS OF BULK AT MOST 1048576: true; the input reads as it did. -/
def termTotalUptoRow : OpenClaim := { program := "ytmffobadnmkpbaa", sum := "56682afefdfadcd0e7fb3c25b282d19e6332b5a140386e25461e3bd9659fef98", func := "coney/coneylaw07.TermTotal", spec := "termTotal", unfollowed := true, recurses := true, apart := false, narrowed := true }
def TermTotalUptoSaid : Prop := termTotalUptoRow.holds Try.pinned (OpenSpec.upto termTotalSpec)

/-- 'coneylaw07.TermCopies', WHERE WHAT IT READS IS OF BULK AT MOST 1048576: true; the input reads as it did. -/
def termCopiesUptoRow : OpenClaim := { program := "ytmffobadnmkpbaa", sum := "56682afefdfadcd0e7fb3c25b282d19e6332b5a140386e25461e3bd9659fef98", func := "coney/coneylaw07.TermCopies", spec := "termCopies", unfollowed := true, recurses := true, apart := false, narrowed := true }
def TermCopiesUptoSaid : Prop := termCopiesUptoRow.holds Try.pinned (OpenSpec.upto termCopiesSpec)

/-- 'coneylaw07.TermOrders', WHERE WHAT IT READS IS OF BULK AT MOST 1048576: true; the input reads as it did. -/
def termOrdersUptoRow : OpenClaim := { program := "ytmffobadnmkpbaa", sum := "56682afefdfadcd0e7fb3c25b282d19e6332b5a140386e25461e3bd9659fef98", func := "coney/coneylaw07.TermOrders", spec := "termOrders", unfollowed := true, recurses := true, apart := false, narrowed := true }
def TermOrdersUptoSaid : Prop := termOrdersUptoRow.holds Try.pinned (OpenSpec.upto termOrdersSpec)

/-- 'coneylaw07.TermSorts', WHERE WHAT IT READS IS OF BULK AT MOST 1048576: true; the input reads as it did. -/
def termSortsUptoRow : OpenClaim := { program := "ytmffobadnmkpbaa", sum := "56682afefdfadcd0e7fb3c25b282d19e6332b5a140386e25461e3bd9659fef98", func := "coney/coneylaw07.TermSorts", spec := "termSorts", unfollowed := true, recurses := true, apart := false, narrowed := true }
def TermSortsUptoSaid : Prop := termSortsUptoRow.holds Try.pinned (OpenSpec.upto termSortsSpec)

/-- 'coneylaw10.NormGoals', WHERE WHAT IT READS IS OF BULK AT MOST 1048576: true; the input reads as it did. -/
def normGoalsUptoRow : OpenClaim := { program := "ytmffobadnmkpbaa", sum := "56682afefdfadcd0e7fb3c25b282d19e6332b5a140386e25461e3bd9659fef98", func := "coney/coneylaw10.NormGoals", spec := "normGoals", unfollowed := true, recurses := true, apart := false, narrowed := true }
def NormGoalsUptoSaid : Prop := normGoalsUptoRow.holds Try.pinned (OpenSpec.upto normGoalsSpec)

/-- 'coneylaw10.NormEven', WHERE WHAT IT READS IS OF BULK AT MOST 1048576: true; the input reads as it did. -/
def normEvenUptoRow : OpenClaim := { program := "ytmffobadnmkpbaa", sum := "56682afefdfadcd0e7fb3c25b282d19e6332b5a140386e25461e3bd9659fef98", func := "coney/coneylaw10.NormEven", spec := "normEven", unfollowed := true, recurses := true, apart := false, narrowed := true }
def NormEvenUptoSaid : Prop := normEvenUptoRow.holds Try.pinned (OpenSpec.upto normEvenSpec)

/-- 'coneylaw10.NormSplits', WHERE WHAT IT READS IS OF BULK AT MOST 1048576: true; the input reads as it did. -/
def normSplitsUptoRow : OpenClaim := { program := "ytmffobadnmkpbaa", sum := "56682afefdfadcd0e7fb3c25b282d19e6332b5a140386e25461e3bd9659fef98", func := "coney/coneylaw10.NormSplits", spec := "normSplits", unfollowed := true, recurses := true, apart := false, narrowed := true }
def NormSplitsUptoSaid : Prop := normSplitsUptoRow.holds Try.pinned (OpenSpec.upto normSplitsSpec)

/-- 'coneylaw12.IndexKeeps', WHERE WHAT IT READS IS OF BULK AT MOST 1048576: true; the input reads as it did. -/
def indexKeepsUptoRow : OpenClaim := { program := "ytmffobadnmkpbaa", sum := "56682afefdfadcd0e7fb3c25b282d19e6332b5a140386e25461e3bd9659fef98", func := "coney/coneylaw12.IndexKeeps", spec := "indexKeeps", unfollowed := true, recurses := true, apart := false, narrowed := true }
def IndexKeepsUptoSaid : Prop := indexKeepsUptoRow.holds Try.pinned (OpenSpec.upto indexKeepsSpec)

/-- 'coneylaw12.IndexFacts', WHERE WHAT IT READS IS OF BULK AT MOST 1048576: true; the input reads as it did. -/
def indexFactsUptoRow : OpenClaim := { program := "ytmffobadnmkpbaa", sum := "56682afefdfadcd0e7fb3c25b282d19e6332b5a140386e25461e3bd9659fef98", func := "coney/coneylaw12.IndexFacts", spec := "indexFacts", unfollowed := true, recurses := true, apart := false, narrowed := true }
def IndexFactsUptoSaid : Prop := indexFactsUptoRow.holds Try.pinned (OpenSpec.upto indexFactsSpec)

/-- 'coneylaw14.DomTerms', WHERE WHAT IT READS IS OF BULK AT MOST 1048576: true; the input reads as it did. -/
def domTermsUptoRow : OpenClaim := { program := "ytmffobadnmkpbaa", sum := "56682afefdfadcd0e7fb3c25b282d19e6332b5a140386e25461e3bd9659fef98", func := "coney/coneylaw14.DomTerms", spec := "domTerms", unfollowed := true, recurses := true, apart := false, narrowed := true }
def DomTermsUptoSaid : Prop := domTermsUptoRow.holds Try.pinned (OpenSpec.upto domTermsSpec)

end Rows
end Go.Proofs.Ytmffobadnmkpbaa
