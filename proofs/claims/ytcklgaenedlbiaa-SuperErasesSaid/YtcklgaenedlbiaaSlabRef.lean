/-
  The document's frames and blocks: walked.
-/
import Derived.Test.YtcklgaenedlbiaaSlabRead
import Derived.Test.YtcklgaenedlbiaaPenRef
import Derived.Test.YtcklgaenedlbiaaCrcRef
namespace Go.Proofs.Ytcklgaenedlbiaa
open Go.RowKit

theorem app_list (a b : ByteArray) : (a ++ b).data.toList = a.data.toList ++ b.data.toList := by simp
theorem list_len (a : ByteArray) : a.data.toList.length = a.size := by simp
def frameV (size : Nat) (s : ByteArray) : ByteArray × Bool := if s.size + 6 ≤ size then (⟨(frameB size s.data.toList).toArray⟩, true) else (⟨#[]⟩, false)

end Go.Proofs.Ytcklgaenedlbiaa
