/-
  fix.Check and the law FixChecks, walked.
-/
import Derived.Test.YtajooiainglpmaaKfix1
namespace Go.Proofs.Ytajooiainglpmaa
open Go.RowKit

end Go.Proofs.Ytajooiainglpmaa
