/-
  RecGrows, in the row's words.
-/
import Derived.Test.YtjeoelhenlckaaaRecGrows
namespace Go.Proofs.Ytjeoelhenlckaaa
open Go.RowKit
theorem recGrows_row (A : Option Addr) (cap : Nat) (xs : List Msg3) (K : Int) (k v : ByteArray) (w : World) (hr : Row w A (xs.flatMap msgCells))
    (_ : ∀ x ∈ xs, (Lit.int .i64 x.1).wf = true ∧ x.2.1.size ≤ 140737488351232 ∧ x.2.2.size ≤ 140737488351232) (hu : xs.length ≤ cap) (hm : cap ≤ maxLen)
    (_ : (Lit.int .i64 K).wf = true) (_ : k.size ≤ 140737488351232) (_ : v.size ≤ 140737488351232) :
    Calls Try.prog 6 #[.slice A xs.length cap, .agg #[.int .i64 K, .string k, .string v]] w fun e w' => e = .returned (.bool true) ∧ Below w.heap.size w w' :=
  recGrows_walk A cap xs K k v (by simp only [maxLen] at hm; omega) w hr
end Go.Proofs.Ytjeoelhenlckaaa
