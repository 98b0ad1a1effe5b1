/-
  WalRound, in the row's words.
-/
import Derived.Test.YtcklgaenedlbiaaGWalRound33

namespace Go.Proofs.Ytcklgaenedlbiaa
open Go.RowKit Go.Sort

theorem fact_slice_isR {P : Program} {w : World} {d : Nat} {t e : TypeId} {v : Value} (ht : P.underlying t = some (.slice e)) (h : Fact P w (d + 1) t [v]) : ∃ A len cap, v = .slice A len cap := by
  unfold Fact at h; rw [ht] at h
  obtain ⟨A, len, cap, he, _⟩ := h
  simp only [List.cons.injEq, and_true] at he
  exact ⟨A, len, cap, he⟩
theorem len1R : ∀ {l : List Value}, l.length = 1 → ∃ x0, l = [x0]
  | [x0], _ => ⟨x0, rfl⟩
theorem len3R : ∀ {l : List Value}, l.length = 3 → ∃ x0 x1 x2, l = [x0, x1, x2]
  | [x0, x1, x2], _ => ⟨x0, x1, x2, rfl⟩
set_option maxRecDepth 100000 in
theorem rowv_of {w : World} {c : List Value} (hl : c.length = Try.prog.cellsOf 74) (h : Fact Try.prog w 4 74 c) :
    ∃ x : RowV, c = [x.cell] ∧ Row w x.A (x.l.flatMap msgCells) := by
  replace hl : c.length = 1 := hl.trans (by kernel_rfl)
  obtain ⟨x0, rfl⟩ := len1R hl
  obtain ⟨A, len, cap, rfl⟩ := fact_slice_isR Try.underlying74 h
  obtain ⟨_, _, _, vs, hvl, hvs, hrow⟩ := fact_slice Try.underlying74 (by rw [show Try.prog.cellsOf 70 = 3 by kernel_rfl]; decide) h
  obtain ⟨l, rfl, _⟩ := list_told (f := msgCells) (p := fun _ => True) (vs := vs) fun c hc => by
    obtain ⟨hcl, hcf⟩ := hvs c hc
    replace hcl : c.length = 3 := hcl.trans (by kernel_rfl)
    obtain ⟨_, hcf⟩ := fact_struct Try.underlying70 hcf
    obtain ⟨x0, x1, x2, rfl⟩ := len3R hcl
    have G0 := fact_field hcf (t := 3) (i := 0) (by kernel_rfl) (show Try.prog.cellsOf 3 = 1 by kernel_rfl) (v := x0) rfl
    have G1 := fact_field hcf (t := 9) (i := 1) (by kernel_rfl) (show Try.prog.cellsOf 9 = 1 by kernel_rfl) (v := x1) rfl
    have G2 := fact_field hcf (t := 9) (i := 2) (by kernel_rfl) (show Try.prog.cellsOf 9 = 1 by kernel_rfl) (v := x2) rfl
    obtain ⟨y0, e0, _⟩ := fact_int Try.underlying3 G0
    obtain ⟨y1, e1, _⟩ := fact_string Try.underlying9 G1
    obtain ⟨y2, e2, _⟩ := fact_string Try.underlying9 G2
    simp only [List.cons.injEq, and_true] at e0 e1 e2
    subst e0 e1 e2
    exact ⟨(y0, y1, y2), rfl, trivial⟩
  rw [← List.flatMap_def] at hrow
  rw [List.length_map] at hvl
  subst hvl
  exact ⟨⟨A, cap, l⟩, rfl, hrow⟩
set_option maxRecDepth 100000 in
theorem walRound_row {q0 q1 q2 q3 q4 : Prop} (OA : Option Addr) (ocap : Nat) (old : List ByteArray) (ep fr : Int) (RA : Option Addr) (rcap : Nat) (z : List (List Value)) (w : World) (hor : Row w OA (strs old)) (_ : q0) (_ : q1) (_ : q2) (_ : q3) (_ : q4)
    (hr : Row w RA z.flatten) (hz : ∀ c ∈ z, c.length = Try.prog.cellsOf 74 ∧ Fact Try.prog w 4 74 c) (_ : z.length ≤ rcap) (_ : rcap ≤ maxLen) :
    Calls Try.prog 7 #[.slice OA old.length ocap, .int .i64 ep, .int .i64 fr, .slice RA z.length rcap] w fun e w' => e = .returned (.bool true) ∧ Below w.heap.size w w' := by
  obtain ⟨rows, rfl, hx⟩ := list_told (f := fun x : RowV => [x.cell]) (p := fun x => Row w x.A (x.l.flatMap msgCells)) (vs := z) fun c hc => by
    obtain ⟨x, e, h⟩ := rowv_of (hz c hc).1 (hz c hc).2
    exact ⟨x, e, h⟩
  rw [← List.flatMap_def, ← List.map_eq_flatMap] at hr
  rw [List.length_map]
  exact walRound_walk OA ocap old ep fr RA rcap rows w hor hr hx
end Go.Proofs.Ytcklgaenedlbiaa
