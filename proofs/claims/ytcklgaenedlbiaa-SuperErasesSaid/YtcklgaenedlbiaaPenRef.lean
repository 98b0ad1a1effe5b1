/-
  The document's writer of layer 1: Num, Text.
-/
import Derived.Test.YtcklgaenedlbiaaPenRefT
namespace Go.Proofs.Ytcklgaenedlbiaa
open Go.RowKit

theorem set_rep1 (k : Nat) (z x : Value) (r : List Value) : (List.replicate (k + 1) z ++ r).set k x = List.replicate k z ++ (x :: r) := by
  rw [List.replicate_succ', List.append_assoc, List.set_append_right _ _ (by simp)]
  simp

def numS (width n : Nat) : ByteArray := ⟨(beB width n).toArray⟩

end Go.Proofs.Ytcklgaenedlbiaa
