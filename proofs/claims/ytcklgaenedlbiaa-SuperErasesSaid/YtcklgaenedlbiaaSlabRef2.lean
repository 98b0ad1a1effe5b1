/-
  The document's stamped blocks: walked.
-/
import Derived.Test.YtcklgaenedlbiaaSlabRef
namespace Go.Proofs.Ytcklgaenedlbiaa
open Go.RowKit

/-- a stamped block; whether it can be -/
def rstampV (e q : Int) (s : ByteArray) : ByteArray × Bool :=
  if s.size ≤ 218 ∧ 1 ≤ e ∧ e ≤ 2147483647 ∧ 0 ≤ q ∧ q ≤ 2147483647 then (⟨(stampB e.toNat q.toNat (frameB 224 s.data.toList)).toArray⟩, true) else (⟨#[]⟩, false)

end Go.Proofs.Ytcklgaenedlbiaa
