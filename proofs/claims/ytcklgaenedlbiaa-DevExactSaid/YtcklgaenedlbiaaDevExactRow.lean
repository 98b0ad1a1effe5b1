/-
  DevExact, in the row's words.
-/
import Derived.Test.YtcklgaenedlbiaaDevExact
import Derived.Test.YtcklgaenedlbiaaOpen
namespace Go.Proofs.Ytcklgaenedlbiaa
open Go.RowKit Go.Sort

theorem fact_slice_is {P : Program} {w : World} {d : Nat} {t e : TypeId} {v : Value} (ht : P.underlying t = some (.slice e)) (h : Fact P w (d + 1) t [v]) : ∃ A len cap, v = .slice A len cap := by
  unfold Fact at h; rw [ht] at h
  obtain ⟨A, len, cap, he, _⟩ := h
  simp only [List.cons.injEq, and_true] at he
  exact ⟨A, len, cap, he⟩
theorem len4 : ∀ {l : List Value}, l.length = 4 → ∃ x0 x1 x2 x3, l = [x0, x1, x2, x3]
  | [x0, x1, x2, x3], _ => ⟨x0, x1, x2, x3, rfl⟩
set_option maxRecDepth 100000 in
theorem act_of {w : World} {c : List Value} (hl : c.length = Try.prog.cellsOf 35) (h : Fact Try.prog w 4 35 c) :
    ∃ a : ActV, c = a.cells ∧ (Lit.int .i64 a.kind).wf = true ∧ (Lit.int .i64 a.at_).wf = true ∧ Row w a.KA (bools a.keep) ∧ a.keep.length ≤ 9223372036854775807 := by
  replace hl : c.length = 4 := hl.trans (by kernel_rfl)
  obtain ⟨_, F⟩ := fact_struct Try.underlying35 h
  obtain ⟨x0, x1, x2, x3, rfl⟩ := len4 hl
  have G0 := fact_field F (t := 3) (i := 0) (by kernel_rfl) (show Try.prog.cellsOf 3 = 1 by kernel_rfl) (v := x0) rfl
  have G1 := fact_field F (t := 3) (i := 1) (by kernel_rfl) (show Try.prog.cellsOf 3 = 1 by kernel_rfl) (v := x1) rfl
  have G2 := fact_field F (t := 5) (i := 2) (by kernel_rfl) (show Try.prog.cellsOf 5 = 1 by kernel_rfl) (v := x2) rfl
  have G3 := fact_field F (t := 33) (i := 3) (by kernel_rfl) (show Try.prog.cellsOf 33 = 1 by kernel_rfl) (v := x3) rfl
  obtain ⟨k, e0, w0⟩ := fact_int Try.underlying3 G0
  obtain ⟨a, e1, w1⟩ := fact_int Try.underlying3 G1
  obtain ⟨n, e2, w2⟩ := fact_int Try.underlying5 G2
  obtain ⟨B, len, cap, rfl⟩ := fact_slice_is Try.underlying33 G3
  obtain ⟨u3, m3, _, bs, hbl, hrow⟩ := fact_bools Try.underlying33 Try.underlying4 (show Try.prog.cellsOf 4 = 1 by kernel_rfl) G3
  simp only [List.cons.injEq, and_true] at e0 e1 e2
  subst e0 e1 e2 hbl
  have hn := wf_u8 w2
  refine ⟨⟨k, a, UInt8.ofNat n.toNat, B, cap, bs⟩, ?_, w0, w1, hrow, by simp only [maxLen] at m3; simp only; omega⟩
  show _ = [_, _, Value.int .u8 ((UInt8.ofNat n.toNat).toNat : Int), _]
  have : ((UInt8.ofNat n.toNat).toNat : Int) = n := by simp; omega
  rw [this]
set_option maxRecDepth 100000 in
theorem devExact_row (image : ByteArray) (A : Option Addr) (cap : Nat) (z : List (List Value)) (w : World) (hs : image.size ≤ 140737488351232) (hr : Row w A z.flatten) (hz : ∀ c ∈ z, c.length = Try.prog.cellsOf 35 ∧ Fact Try.prog w 4 35 c) (hu : z.length ≤ cap) (hm : cap ≤ maxLen) :
    Calls Try.prog 4 #[.string image, .slice A z.length cap] w fun e w' => e = .returned (.bool true) ∧ Below w.heap.size w w' := by
  obtain ⟨xs, rfl, hx⟩ := list_told (f := ActV.cells) (p := fun a => (Lit.int .i64 a.kind).wf = true ∧ (Lit.int .i64 a.at_).wf = true ∧ Row w a.KA (bools a.keep) ∧ a.keep.length ≤ 9223372036854775807) (vs := z) fun c hc => by
    obtain ⟨a, e, h⟩ := act_of (hz c hc).1 (hz c hc).2
    exact ⟨a, e, h⟩
  rw [← List.flatMap_def] at hr
  rw [List.length_map] at hu ⊢
  exact devExact_walk image A cap xs w hs hr (by simp only [maxLen] at hm; omega) hx
end Go.Proofs.Ytcklgaenedlbiaa
