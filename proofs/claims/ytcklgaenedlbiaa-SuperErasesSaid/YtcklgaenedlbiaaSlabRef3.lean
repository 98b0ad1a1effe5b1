/-
  The document's reading of a stamped block: walked.
-/
import Derived.Test.YtcklgaenedlbiaaSlabRef
namespace Go.Proofs.Ytcklgaenedlbiaa
open Go.RowKit

end Go.Proofs.Ytcklgaenedlbiaa
