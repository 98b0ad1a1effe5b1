/-
  RecExact, in the row's words.
-/
import Derived.Test.YtjeoelhenlckaaaRecExact
namespace Go.Proofs.Ytjeoelhenlckaaa
open Go.RowKit
theorem recExact_row (A : Option Addr) (cap : Nat) (xs : List Msg3) (w : World) (hr : Row w A (xs.flatMap msgCells))
    (_ : ∀ x ∈ xs, (Lit.int .i64 x.1).wf = true ∧ x.2.1.size ≤ 140737488351232 ∧ x.2.2.size ≤ 140737488351232) (hu : xs.length ≤ cap) (hm : cap ≤ maxLen) :
    Calls Try.prog 3 #[.slice A xs.length cap] w fun e w' => e = .returned (.bool true) ∧ Below w.heap.size w w' :=
  recExact_walk A cap xs (by simp only [maxLen] at hm; omega) hu w hr
end Go.Proofs.Ytjeoelhenlckaaa
