/-
  The document's sum, walked: Step, Sum; the digits' texts: Text of both.
-/
import Derived.Test.YtcklgaenedlbiaaProg
import Derived.Test.YtcklgaenedlbiaaKit
import Derived.Test.YtcklgaenedlbiaaCrcPure
namespace Go.Proofs.Ytcklgaenedlbiaa
open Go.RowKit

def ones_ (x : Nat) : Nat → Nat
  | 0 => x
  | k + 1 => Crc.one (ones_ x k)
theorem ones_lt_ {x : Nat} (h : x < 4294967296) : ∀ k, ones_ x k < 4294967296
  | 0 => h
  | k + 1 => Crc.one_lt (ones_lt_ h k)
theorem ones_8 (r b : Nat) : ones_ (r ^^^ b) 8 = Crc.upd r b := (Crc.upd8_eq r b)

end Go.Proofs.Ytcklgaenedlbiaa
