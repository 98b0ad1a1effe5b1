/-
  What a parameter that is four truths in a row is.
-/
import Derived.Test.YtjeoelhenlckaaaOpen
import Derived.Laws.IdiomArrays
namespace Go.Proofs.Ytjeoelhenlckaaa
open Go.ChangeShapes Go.WideShapes Go.RowKit Go.Deep

section
variable {H : Type} {enc : TypeId × Value → H} {P : Program} {w : World}
theorem okWide_arr {r : Reach} {base n : Nat} {t e : TypeId} {v : Value} (ht : P.underlying t = some (.array n e)) (h : Value.okWide P w r base t v) : ∃ cs, v = .agg cs ∧ cs.size = P.cellsOf t := by
  simp only [Value.okWide, ht] at h
  obtain ⟨cs, h1, h2, _⟩ := h
  exact ⟨cs, h1, h2⟩
theorem bools4 {t e : TypeId} {cs : Array Value} {d : DataW H} {ps : List MemPlace} (ht : P.underlying t = some (.array 4 e)) (he : P.underlying e = some .bool) (hce : P.cellsOf e = 1) (hz : cs.size = 4)
    (h : DataW.Trod enc P w 0 (fun _ => true) true t (.agg cs) d ps) : ∃ b0 b1 b2 b3, cs = #[.bool b0, .bool b1, .bool b2, .bool b3] := by
  obtain ⟨l⟩ := cs
  match l, hz with
  | [c0, c1, c2, c3], _ =>
    obtain ⟨fuel, hf⟩ := h
    obtain ⟨y0, y1, y2, y3, n, _, h0, h1, h2, h3⟩ := trod_array4 ht hce (show DataW.trod enc P w 0 (fun _ => true) true fuel t [c0, c1, c2, c3] = some (d, ps) from hf)
    obtain ⟨b0, e0, _⟩ := DataW.trod_bool he h0
    obtain ⟨b1, e1, _⟩ := DataW.trod_bool he h1
    obtain ⟨b2, e2, _⟩ := DataW.trod_bool he h2
    obtain ⟨b3, e3, _⟩ := DataW.trod_bool he h3
    simp only [List.cons.injEq, and_true] at e0 e1 e2 e3
    subst e0; subst e1; subst e2; subst e3
    exact ⟨b0, b1, b2, b3, rfl⟩
end
end Go.Proofs.Ytjeoelhenlckaaa
