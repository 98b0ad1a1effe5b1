/-
  The document's Read of layer 8, walked.
  The document's writer of layer 1: Text.
-/
import Derived.Test.YtcklgaenedlbiaaGWalRound07
import Derived.Test.YtcklgaenedlbiaaGWalRound04

namespace Go.Proofs.Ytcklgaenedlbiaa
open Go.RowKit
end Go.Proofs.Ytcklgaenedlbiaa

namespace Go.Proofs.Ytcklgaenedlbiaa
open Go.RowKit

theorem ba_ext1 {a b : ByteArray} (h : a.toList = b.toList) : a = b := by
  rw [ByteArray.toList_eq, ByteArray.toList_eq] at h
  cases a; cases b
  simp only [Array.toList_inj] at h
  rw [h]
def textS (s : ByteArray) : ByteArray := ⟨(textB s).toArray⟩
end Go.Proofs.Ytcklgaenedlbiaa
